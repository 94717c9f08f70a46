/- Format: two new devices are made a store without entries. -/
import Derived.Test.YtkjpdfomppjiiaaGreatDoorKSt
/- A store whose tree is one empty leaf, as it lies in memory; a superblock is written. -/
namespace Go.Proofs.YtkjpdfomppjiiaaGreatDoor
open Go.RowKit

structure StA where
 cf : CfE
 sb : Nat
 mb : Nat
 p : Nat
 tk : Nat
 cb : Nat
 ib : Nat
 pb : Nat
 tb : Nat
 v : Nat
 cfp : List Nat
 sfp : List Nat
 lg : Value
 sup : SupE
 S : Sp
 R : List Kept
 c0 : Nat
 c1 : Nat
 t : Nat
 kn : Bool
 ld : Bool
 q : PtrE
def StA.five (a : StA) : List Nat := [a.sb, a.tk, a.ib, a.tb, a.v]
def StA.all (a : StA) : List Nat := a.five ++ (a.cfp ++ a.sfp)
def StA.cells (a : StA) : List Value := stC a.cf a.mb a.tk (.pointer (some ⟨a.cb, 0, none⟩)) (.pointer (some ⟨a.pb, 0, none⟩)) a.lg (.pointer (some ⟨a.tb, 0, none⟩)) a.sup nilS 0 a.ib
structure StIn (W w : World) (F : List Nat) (x : Nat → Nat) (a : StA) (M : Mi) : Prop where
 own : OwnM W F w a.mb a.p x M
 st : Blk w a.sb 85 a.cells
 sum : Blk w a.tk 218 sumRow
 cache : IsC w a.cb a.cfp a.cf.cache a.R a.c0 a.c1 a.t
 space : IsSpace w a.pb a.sfp a.S
 imgs : MapK kvN w a.ib (fun _ => none) 0
 tree : Blk w a.tb 153 (treeC a.cf.plan a.sb a.v 1 nilS 0 0)
 leaf : Blk w a.v 151 (vC a.kn a.q a.ld nilS nilS nilS nilS)
 mem : ∀ g ∈ a.all, g ∈ F ∧ W.heap.size ≤ g
 nd : a.five.Nodup
 off : ∀ g ∈ a.cfp ++ a.sfp, g ∉ a.five
 apart : ∀ g ∈ a.cfp, g ∉ a.sfp
section
variable {W w w' : World} {F G : List Nat} {x : Nat → Nat} {a : StA} {M M' : Mi} {B z n c : Nat} {rd : Nat → ByteArray}
theorem StA.in5 {a : StA} {g : Nat} (h : g ∈ a.five) : g ∈ a.all := List.mem_append_left _ h
theorem StA.inC {a : StA} {g : Nat} (h : g ∈ a.cfp) : g ∈ a.all := List.mem_append_right _ (List.mem_append_left _ h)
theorem StA.inS {a : StA} {g : Nat} (h : g ∈ a.sfp) : g ∈ a.all := List.mem_append_right _ (List.mem_append_right _ h)
theorem StIn.go (h : StIn W w F x a M) (ho : OwnM W G w' a.mb a.p x M') (hm : Minds F w w') (hG : ∀ g ∈ F, g ∈ G) : StIn W w' G x a M' := by
 have hx := fun {g : Nat} (hg : g ∈ a.all) => (h.mem g hg).1
 refine ⟨ho, hm.blk h.st (hx (StA.in5 (by simp [StA.five]))), hm.blk h.sum (hx (StA.in5 (by simp [StA.five]))), ?_, ?_, hm.map h.imgs (hx (StA.in5 (by simp [StA.five]))), hm.blk h.tree (hx (StA.in5 (by simp [StA.five]))), hm.blk h.leaf (hx (StA.in5 (by simp [StA.five]))), fun g hg => ⟨hG g (h.mem g hg).1, (h.mem g hg).2⟩, h.nd, h.off, h.apart⟩
 ·exact (Turn.minds (K := []) hm).cache h.cache (fun g hg => hx (StA.inC hg)) (by simp)
 ·exact (Turn.minds (K := []) hm).space h.space (fun g hg => hx (StA.inS hg)) (by simp)
theorem StIn.calm (h : StIn W w F x a M) (hm : Mods [] w w') : StIn W w' F x a M := h.go (h.own.still hm) (Minds.of hm) (fun _ h => h)
theorem StIn.protect (h : StIn W w F x a M) (hm : Mods [] w w') (hG : ∀ g ∈ G, w.heap.size ≤ g ∧ g < w'.heap.size) : StIn W w' (G ++ F) x a M :=
 h.go (h.own.protect hm (fun g hg => (List.mem_append.1 hg).elim (fun h => .inr (hG g h)) .inl)) (Minds.of hm) (fun _ h => List.mem_append_right _ h)
theorem StIn.less (h : StIn W w F x a M) (hG : ∀ g ∈ G, g ∈ F) (hm : ∀ g ∈ a.all, g ∈ G) : StIn W w G x a M :=
 ⟨h.own.fewer hG, h.st, h.sum, h.cache, h.space, h.imgs, h.tree, h.leaf, fun g hg => ⟨hm g hg, (h.mem g hg).2⟩, h.nd, h.off, h.apart⟩
theorem StIn.aside {K : List Nat} (h : StIn W w F x a M) (hm : Mods K w w') (hK : ∀ k ∈ K, k ∈ F ∧ W.heap.size ≤ k ∧ k ∉ a.all) : StIn W w' F x a M := by
 have hx : ∀ {g : Nat}, g ∈ a.all → g ∉ K := fun hg hk => (hK _ hk).2.2 hg
 exact ⟨h.own.aside hm (fun k hk => ⟨(hK k hk).1, (hK k hk).2.1⟩), h.st.keep hm (hx (StA.in5 (by simp [StA.five]))), h.sum.keep hm (hx (StA.in5 (by simp [StA.five]))), h.cache.keep hm (fun k hk => hx (StA.inC hk)), h.space.keep hm (fun k hk => hx (StA.inS hk)),
  h.imgs.keep hm (hx (StA.in5 (by simp [StA.five]))), h.tree.keep hm (hx (StA.in5 (by simp [StA.five]))), h.leaf.keep hm (hx (StA.in5 (by simp [StA.five]))), h.mem, h.nd, h.off, h.apart⟩
theorem StIn.all_lt (h : StIn W w F x a M) {g : Nat} (hg : g ∈ a.all) : g < w.heap.size := h.own.lt g (h.mem g hg).1
theorem StIn.size (h : StIn W w F x a M) (hw : WS B z n c M rd) : Calls Tryz.prog 130 #[.pointer (some ⟨a.sb, 0, none⟩)] w fun e w' => e = .returned (.int .i64 (z : Nat)) ∧ Hid (Mods [] w w') := stSize_any h.own hw.fine h.st
end
section
variable {W w : World} {F : List Nat} {x : Nat → Nat} {mb p sb tk ib n nn : Nat} {M : Mi} {B z c : Nat} {cf : CfE} {ca sp lg tr wt : Value} {b0 b : SupE} {rd : Nat → ByteArray}
set_option maxRecDepth 100000 in
set_option maxHeartbeats 6400000 in
theorem stBegin_any (h : OwnM W F w mb p x M) (hw : WS B z nn c M rd) (hc : c ≤ 600000) (hz0 : 128 ≤ z) (hz : z ≤ 1024) (hb : Blk w sb 85 (stC cf mb tk ca sp lg tr b0 wt n ib)) (htk : Blk w tk 218 sumRow) (hF : sb ∈ F ∧ tk ∈ F) (hok : b.Ok) (hB : 2 ≤ B) :
  Calls Tryz.prog 71 #[.pointer (some ⟨sb, 0, none⟩), supV b] w fun e w' => ∃ M', e = .returned (.int .i64 0) ∧ Hid (OwnM W F w' mb p x M') ∧ Hid (WS B z nn 0 M' (updR rd (b.gen % 2) (bA (supImg z b)))) ∧ Hid (M'.reps = M.reps ∧ (M.bl = [] → M'.bl = [])) ∧ Hid (Minds F w w') := by
 have hsl : b.gen % 2 < B := by have := Nat.mod_lt b.gen (show 0 < 2 by decide); omega
 have hil : (bA (supImg z b)).size = z := by
  rw [bA_size]
  exact sealL_len _ (by rw [supL_len]; omega)
 obtain ⟨k1, k2, k3, k4⟩ := hw.write hsl hil
 obtain ⟨f1, f2, f3, f4⟩ := k2.flush
 have cI := Lib.hid (fun (w' : World) (h' : Blk w' tk 218 sumRow) => suImage_any h' hok z hz0 hz)
 have cS := Lib.hid (fun W => suSlot_any (W := W) b.gen)
 obtain ⟨img, himg⟩ : ∃ img, bA (supImg z b) = img := ⟨_, rfl⟩
 obtain ⟨sl, hslo⟩ : ∃ sl, b.gen % 2 = sl := ⟨_, rfl⟩
 rw [himg] at cI hil k1 k2 k3 k4 f1 f2 f3 f4 ⊢
 rw [hslo] at cS hsl k1 k2 k3 k4 f1 f2 f3 f4 ⊢
 obtain ⟨M1, hM1⟩ : ∃ M1, (M.write sl img).2 = M1 := ⟨_, rfl⟩
 have hwr : M.write sl img = (0, M1) := by rw [← hM1, ← k1]
 rw [hM1] at k2 k3 k4 f1 f2 f3 f4
 obtain ⟨M2, hM2⟩ : ∃ M2, M1.flush.2 = M2 := ⟨_, rfl⟩
 have hfl : M1.flush = (0, M2) := by rw [← hM2, ← f1]
 rw [hM2] at f2 f3 f4
 have HK := Lib.hid (And.intro k2 (And.intro f2 (And.intro (f3.trans k3) (fun h0 : M.bl = [] => f4.trans (k4 h0)))))
 have HIL := Lib.hid hil
 have HSL := Lib.hid hsl
 have HW := Lib.hid hw
 have HFF := Lib.hid hF
 clear himg hslo hM1 hM2 k1 k2 k3 k4 f1 f2 f3 f4 hil hsl hok hw hF
 obtain ⟨gn, ⟨ra, rg, rs⟩, ht, sq, ch⟩ := b
 unfold supV at *
 simp only at *
 obtain ⟨w1, hw1⟩ : ∃ w1, w.alloc (.cells #[.int .u64 (gn : Nat), .int .i64 ra, .int .u64 (rg : Nat), .int .u32 (rs : Nat), .int .i64 (ht : Nat), .int .u64 (sq : Nat), .int .u32 (ch : Nat)] 81) = w1 := ⟨_, rfl⟩
 obtain ⟨g, hg⟩ : ∃ g, w.heap.size = g := ⟨_, rfl⟩
 have hb1 : Blk w1 g 81 [.int .u64 (gn : Nat), .int .i64 ra, .int .u64 (rg : Nat), .int .u32 (rs : Nat), .int .i64 (ht : Nat), .int .u64 (sq : Nat), .int .u32 (ch : Nat)] := by rw [← hw1, ← hg]; exact Blk.new w 81 _
 have hm1 : Mods [] w w1 := by rw [← hw1]; exact (Mods.refl _ _).alloc _
 have hs1 : w1.heap.size = g + 1 := by rw [← hw1, ← hg]; simp
 have HO1 : Hid (OwnM W (g :: F) w1 mb p x M) := Lib.hid (h.protect hm1 (fun k hk => by
  rcases List.mem_cons.1 hk with rfl | hk
  ·exact .inr ⟨by omega, by omega⟩
  ·exact .inl hk))
 have HM1 := Lib.hid hm1
 have HBS := Lib.hid (hb.keep hm1 (by simp))
 have HTK := Lib.hid (htk.keep hm1 (by simp))
 have HB1 := Lib.hid hb1
 have HC : Hid (∀ w', Mods [] w1 w' → w'.cell? ⟨g, 0, none⟩ = some (.int .u64 (gn : Nat)) ∧ w'.cell? ⟨g, 1, none⟩ = some (.int .i64 ra) ∧ w'.cell? ⟨g, 2, none⟩ = some (.int .u64 (rg : Nat)) ∧ w'.cell? ⟨g, 3, none⟩ = some (.int .u32 (rs : Nat)) ∧ w'.cell? ⟨g, 4, none⟩ = some (.int .i64 (ht : Nat)) ∧ w'.cell? ⟨g, 5, none⟩ = some (.int .u64 (sq : Nat)) ∧ w'.cell? ⟨g, 6, none⟩ = some (.int .u32 (ch : Nat)) ∧ w'.cell? ⟨sb, 8, none⟩ = some (.pointer (some ⟨tk, 0, none⟩))) := Lib.hid (fun w' hm => by
  have y := HB1.out.keep hm (by simp)
  exact ⟨y.cell (i := 0) rfl, y.cell (i := 1) rfl, y.cell (i := 2) rfl, y.cell (i := 3) rfl, y.cell (i := 4) rfl, y.cell (i := 5) rfl, y.cell (i := 6) rfl, (HBS.out.keep hm (by simp)).cell (i := 8) rfl⟩)
 have cZ := Lib.hid (fun (w' : World) (hm : Mods [] w1 w') => stSize_any (HO1.out.still hm) HW.out.fine (HBS.out.keep hm (by simp)))
 obtain ⟨q0, q1, q2, q3, q4, q5, q6, q8⟩ := HC.out w1 (Mods.refl _ _)
 clear h hb htk hb1 hm1 hs1
 go_enter Tryz.func71, Tryz.ntmps71
 go_upto_region 1 with fail
 try rw [hw1, hg]
 clear hw1 hg
 go_region_held3 (fun w' => w'.cell? ⟨g, 0, none⟩ = some (.int .u64 (gn : Nat)) ∧ w'.cell? ⟨g, 1, none⟩ = some (.int .i64 ra) ∧ w'.cell? ⟨g, 2, none⟩ = some (.int .u64 (rg : Nat)) ∧ w'.cell? ⟨g, 3, none⟩ = some (.int .u32 (rs : Nat)) ∧ w'.cell? ⟨g, 4, none⟩ = some (.int .i64 (ht : Nat)) ∧ w'.cell? ⟨g, 5, none⟩ = some (.int .u64 (sq : Nat)) ∧ w'.cell? ⟨g, 6, none⟩ = some (.int .u32 (ch : Nat)) ∧ w'.cell? ⟨sb, 8, none⟩ = some (.pointer (some ⟨tk, 0, none⟩)))
  (first | exact HC.out _ HM3.out | exact HC.out _ HM2.out | go_keep | fail)
  (first | (go_at_call 129; refine (cI.out _ (HTK.out.keep HM2.out (by simp))).mono ?_; rintro e w3 ⟨rfl, hm3⟩; have HM3 : Hid (Mods [] w1 w3) := Lib.hid (HM2.out.tr hm3.out)) | (go_at_call 130; refine (cZ.out _ (by first | exact (Mods.refl _ _).drew | exact Mods.refl _ _)).mono ?_; rintro e w2 ⟨rfl, hm2⟩; have HM2 : Hid (Mods [] w1 w2) := Lib.hid (((Mods.refl _ _).drew).tr hm2.out)) | fail)
 have HO3 := Lib.hid (HO1.out.still HM3.out)
 have cW := Lib.hid (fun (w' : World) (hm : Mods [] w3 w') => oWrite (HO3.out.still hm) HW.out.fine (show c ≤ 700000 by omega) HSL.out HIL.out)
 rw [hwr] at cW
 simp only at cW
 have HCX : Hid (∀ w', Minds (g :: F) w3 w' → w'.cell? ⟨sb, 7, none⟩ = some (.pointer (some ⟨mb, 0, none⟩)) ∧ w'.cell? ⟨g, 0, none⟩ = some (.int .u64 (gn : Nat))) := Lib.hid (fun w' hm => ⟨(hm.blk (HBS.out.keep HM3.out (by simp)) (List.mem_cons_of_mem _ HFF.out.1)).cell (i := 7) rfl, (hm.blk (HB1.out.keep HM3.out (by simp)) (by simp)).cell (i := 0) rfl⟩)
 obtain ⟨j7, j0⟩ := HCX.out w3 (Minds.refl _ _)
 clear q0 q1 q2 q3 q4 q5 q6 q8 cI cZ
 go_upto_region 3 with fail
 go_region_held3 (fun w' => w'.cell? ⟨sb, 7, none⟩ = some (.pointer (some ⟨mb, 0, none⟩)) ∧ w'.cell? ⟨g, 0, none⟩ = some (.int .u64 (gn : Nat)))
  (first | exact HCX.out _ HN5.out | go_keep | fail)
  (first | (go_at_call 80; refine (cS.out _).mono ?_; rintro e w4 ⟨rfl, hw4⟩; subst hw4) | (go_at_call 131; refine (cW.out _ (by first | exact (Mods.refl _ _).drew | exact Mods.refl _ _)).mono ?_; rintro e w5 ⟨rfl, HO5, hn5⟩; have HN5 : Hid (Minds (g :: F) w3 w5) := Lib.hid ((Minds.of ((Mods.refl _ _).drew)).trans hn5.out)) | fail)
 have cF := oFlush HO5.out HK.out.1.fine (show c + 2 ≤ 800000 by omega)
 rw [hfl] at cF
 simp only at cF
 replace cF := Lib.hid cF
 obtain ⟨j7, j0⟩ := HCX.out w5 HN5.out
 clear cW cS
 go_wp2_with (go_at_call 50; refine cF.out.mono ?_; rintro e w6 ⟨rfl, HO6, HN6⟩)
 go_ret
 refine ⟨M2, rfl, Lib.hid (HO6.out.fewer (fun k hk => List.mem_cons_of_mem _ hk)), Lib.hid HK.out.2.1, Lib.hid HK.out.2.2, Lib.hid ?_⟩
 exact ((Minds.of (HM1.out.trans HM3.out (by simp))).trans ((HN5.out.trans HN6.out).mono (fun k hk => List.mem_cons_of_mem _ hk)))
end
end Go.Proofs.YtkjpdfomppjiiaaGreatDoor
/- A store's tree is committed. -/
namespace Go.Proofs.YtkjpdfomppjiiaaGreatDoor
open Go.RowKit

theorem results_tctt {fn : Func} {p q r s : Tmp} {ty : TypeId} (h : fn.results = #[.tmp p, .cell q ty, .tmp r, .tmp s]) {tmps : Array Value} {P : Program} {w : World} {ad : Addr} {v : Value} (hp : tmps.getD q undef = .pointer (some ad)) (hl : (loadVar ty ad).run P w = .ok v w) :
  (results fn tmps).run P w = .ok (.tuple #[tmps.getD p undef, v, tmps.getD r undef, tmps.getD s undef]) w := by
 have e : (results fn tmps).run P w = ((asAddr (tmps.getD q undef)).run P w).andThen fun ad w1 => ((loadVar ty ad).run P w1).andThen fun v w2 => .ok (.tuple #[tmps.getD p undef, v, tmps.getD r undef, tmps.getD s undef]) w2 := by
  simp only [results, h]
  simp [Sem.run_bind, Result.andThen]
 rw [e, hp]
 simp only [asAddr, Sem.run_pure, Result.andThen_ok, hl]
theorem stSave_any {W : World} {sb gen : Nat} : Calls Tryz.prog 127 #[.pointer (some ⟨sb, 0, none⟩), .int .u64 (gen : Nat)] W fun e w' => ∃ c1 c2, e = .returned (.func (.func 180) #[] #[.pointer (some ⟨c1, 0, none⟩), .pointer (some ⟨c2, 0, none⟩)]) ∧ Hid (Blk w' c1 24 [.pointer (some ⟨sb, 0, none⟩)]) ∧ Hid (Blk w' c2 42 [.int .u64 (gen : Nat)]) ∧ Hid (Mods [] W w') ∧ Hid (W.heap.size ≤ c1 ∧ c1 < c2) := by
 go_enter Tryz.func127, Tryz.ntmps127
 go_wp2_with fail
 go_ret
 refine ⟨W.heap.size, W.heap.size + 1, by simp, Lib.hid ((Blk.new W 24 _).alloc _), Lib.hid (Blk.newS 42 _ (by simp)), Lib.hid (((Mods.refl _ _).alloc _).alloc _), Lib.hid ⟨Nat.le_refl _, Nat.lt_succ_self _⟩⟩
structure ComIn (W w w' : World) (F : List Nat) (x : Nat → Nat) (a : StA) (S' : Sp) (M' : Mi) (tb2 v2 : Nat) (q : PtrE) : Prop where
 st : StIn W w' ([tb2, v2] ++ F) x { a with S := S' } M'
 tree : Blk w' tb2 153 (treeC a.cf.plan a.sb v2 1 nilS 0 0)
 leaf : Blk w' v2 151 (vC true q false nilS nilS nilS nilS)
 new : w.heap.size ≤ tb2 ∧ w.heap.size ≤ v2 ∧ tb2 ≠ v2
 kept : Turn F a.sfp w w'
section
variable {W w : World} {F : List Nat} {x : Nat → Nat} {a : StA} {M : Mi} {B z nn c gen : Nat} {rd : Nat → ByteArray}
set_option maxRecDepth 100000 in
set_option maxHeartbeats 6400000 in
theorem stCommit_known (h : StIn W w F x a M) (hw : WS B z nn c M rd) (hc : c ≤ 600000) (hk : a.kn = true) :
  Calls Tryz.prog 70 #[.pointer (some ⟨a.sb, 0, none⟩), .int .u64 (gen : Nat)] w fun e w' => ∃ tb2 v2, e = .returned (.tuple #[.pointer (some ⟨tb2, 0, none⟩), supV ⟨gen, a.q, 1, 0, 0⟩, .slice none 0 0, .int .i64 0]) ∧ Hid (ComIn W w w' F x a a.S (M.flush).2 tb2 v2 a.q) := by
 obtain ⟨f1, _, _, _⟩ := hw.flush
 obtain ⟨M2, hM2⟩ : ∃ M2, M.flush.2 = M2 := ⟨_, rfl⟩
 have hfl : M.flush = (0, M2) := by rw [← hM2, ← f1]
 rw [hM2]
 clear hM2 f1
 -- the result's cell
 obtain ⟨w1, hw1⟩ : ∃ w1, w.alloc (.cells #[.int .u64 0, .int .i64 0, .int .u64 0, .int .u32 0, .int .i64 0, .int .u64 0, .int .u32 0] 81) = w1 := ⟨_, rfl⟩
 obtain ⟨r, hr⟩ : ∃ r, w.heap.size = r := ⟨_, rfl⟩
 have hm1 : Mods [] w w1 := by rw [← hw1]; exact (Mods.refl _ _).alloc _
 have hs1 : w1.heap.size = r + 1 := by rw [← hw1, ← hr]; simp
 have hbr : Blk w1 r 81 [.int .u64 0, .int .i64 0, .int .u64 0, .int .u32 0, .int .i64 0, .int .u64 0, .int .u32 0] := by rw [← hw1, ← hr]; exact Blk.new w 81 _
 have cC := Lib.hid (trCopy_one (h.tree.keep hm1 (by simp)) (h.leaf.keep hm1 (by simp)))
 have H1 := Lib.hid (h.calm hm1)
 have HH := Lib.hid h
 have HM1 := Lib.hid hm1
 have HBR := Lib.hid hbr
 have HS1 := Lib.hid hs1
 have HRW := Lib.hid hr
 have HW := Lib.hid hw
 have q12 : w1.cell? ⟨a.sb, 12, none⟩ = some (.pointer (some ⟨a.tb, 0, none⟩)) := H1.out.st.cell (i := 12) rfl
 have hq : supV ⟨gen, a.q, 1, 0, 0⟩ = .agg #[.int .u64 (gen : Nat), .int .i64 a.q.addr, .int .u64 (a.q.gen : Nat), .int .u32 (a.q.sum : Nat), .int .i64 1, .int .u64 0, .int .u32 0] := rfl
 rw [hq]
 obtain ⟨qa, hqa⟩ : ∃ qa, a.q.addr = qa := ⟨_, rfl⟩
 obtain ⟨qg, hqg⟩ : ∃ qg, a.q.gen = qg := ⟨_, rfl⟩
 obtain ⟨qs, hqs⟩ : ∃ qs, a.q.sum = qs := ⟨_, rfl⟩
 have hpq : ptrV a.q = .agg #[.int .i64 qa, .int .u64 (qg : Nat), .int .u32 (qs : Nat)] := by unfold ptrV; rw [hqa, hqg, hqs]
 rw [hqa, hqg, hqs]
 have HPQ := Lib.hid hpq
 have HK := Lib.hid hk
 clear h hw hm1 hs1 hbr hq hqa hqg hqs hpq hk
 go_enter Tryz.func70, Tryz.ntmps70
 go_upto_region 1 with fail
 try rw [hw1, hr]
 clear hw1 hr
 go_upto_region 2 with (go_at_call 125; refine cC.out.mono ?_; rintro e w2 ⟨tb2, vA, rfl, HT2, HVA, HM2, HL2⟩)
 have hvA := HVA.out
 rw [HK.out] at hvA
 have HVA' := Lib.hid hvA
 have hne2 : tb2 ≠ vA := by have := HL2.out; omega
 have HNE2 := Lib.hid hne2
 clear hvA hne2 q12 cC HVA
 go_upto_region 3 with (first | (go_at_call 127; refine stSave_any.mono ?_; rintro e w3 ⟨c1, c2, rfl, _, _, HM3, _⟩) | (go_at_call 126; refine (trCommit_known HNE2.out (HT2.out.keep HM3.out (by simp)) (HVA'.out.keep HM3.out (by simp))).mono ?_; rintro e w4 ⟨v2, he, HT4, HV4, HL4, HM4⟩; rw [HPQ.out] at he; subst he))
 obtain ⟨w5, hw5⟩ : ∃ w5, w4.alloc (.cells #[.int .i64 qa, .int .u64 (qg : Nat), .int .u32 (qs : Nat)] 79) = w5 := ⟨_, rfl⟩
 obtain ⟨r9, hr9⟩ : ∃ r9, w4.heap.size = r9 := ⟨_, rfl⟩
 rw [hw5, hr9]
 have hm45 : Mods [] w4 w5 := by rw [← hw5]; exact (Mods.refl _ _).alloc _
 have hs5 : w5.heap.size = r9 + 1 := by rw [← hw5, ← hr9]; simp
 have hb5 : Blk w5 r9 79 [.int .i64 qa, .int .u64 (qg : Nat), .int .u32 (qs : Nat)] := by rw [← hw5, ← hr9]; exact Blk.new w4 79 _
 have s1 := HS1.out
 have s2 := HL2.out
 have s3 := HL4.out
 have sm2 := HM2.out.size
 have sm3 := HM3.out.size
 have sm4 := HM4.out.size
 have hrw := HRW.out
 have htl := HT2.out.lt
 have hm5 : Mods [] w w5 := ((((HM1.out.trans HM2.out (by simp)).trans HM3.out (by simp)).trans HM4.out (fun k hk => .inr (by rw [List.mem_singleton.1 hk]; omega))).trans hm45 (by simp))
 have HSt5 := Lib.hid (HH.out.protect (G := [r, r9, tb2, v2]) hm5 (fun g hg => by
  simp only [List.mem_cons, List.not_mem_nil, or_false] at hg
  rcases hg with rfl | rfl | rfl | rfl <;> omega))
 have hrt : r ∉ [tb2] := by simp; omega
 have HT5 := Lib.hid (HT4.out.keep hm45 (by simp))
 have HV5 := Lib.hid (HV4.out.keep hm45 (by simp))
 have HBR5 := Lib.hid ((((HBR.out.keep HM2.out (by simp)).keep HM3.out (by simp)).keep HM4.out hrt).keep hm45 (by simp))
 have HB5 := Lib.hid hb5
 have HM5 := Lib.hid hm5
 have HNW : Hid (w.heap.size ≤ tb2 ∧ w.heap.size ≤ v2 ∧ tb2 ≠ v2 ∧ w.heap.size ≤ r ∧ r ≠ tb2 ∧ r ≠ v2 ∧ r ≠ r9) := Lib.hid (by refine ⟨by omega, by omega, by omega, by omega, by omega, by omega, by omega⟩)
 have cF := oFlush HSt5.out.own HW.out.fine (show c ≤ 800000 by omega)
 rw [hfl] at cF
 simp only at cF
 replace cF := Lib.hid cF
 have q7 : w5.cell? ⟨a.sb, 7, none⟩ = some (.pointer (some ⟨a.mb, 0, none⟩)) := HSt5.out.st.cell (i := 7) rfl
 clear hw5 hr9 hm45 hs5 hb5 s1 s2 s3 sm2 sm3 sm4 hrw htl hm5 hrt
 go_upto_region 5 with (go_at_call 50; refine cF.out.mono ?_; rintro e w6 ⟨rfl, HO6, HN6⟩)
 have HSt6 := Lib.hid (HSt5.out.go HO6.out HN6.out (fun _ h => h))
 have HT6 := Lib.hid (HN6.out.blk HT5.out (by simp))
 have HV6 := Lib.hid (HN6.out.blk HV5.out (by simp))
 have HBR6 := Lib.hid (HN6.out.blk HBR5.out (by simp))
 have HB6 := Lib.hid (HN6.out.blk HB5.out (by simp))
 have cH := Lib.hid (fun (w' : World) (hm : Mods [] w6 w') => trHeight_any (HT6.out.keep hm (by simp)))
 have k0 := HB6.out.cell (i := 0) rfl
 have k1 := HB6.out.cell (i := 1) rfl
 have k2 := HB6.out.cell (i := 2) rfl
 have z0 := HBR6.out.cell (i := 0) rfl
 have z1 := HBR6.out.cell (i := 1) rfl
 have z2 := HBR6.out.cell (i := 2) rfl
 have z3 := HBR6.out.cell (i := 3) rfl
 have z4 := HBR6.out.cell (i := 4) rfl
 have z5 := HBR6.out.cell (i := 5) rfl
 have z6 := HBR6.out.cell (i := 6) rfl
 have f0 := HBR6.out.free 0
 have f1 := HBR6.out.free 1
 have f2 := HBR6.out.free 2
 have f3 := HBR6.out.free 3
 have f4 := HBR6.out.free 4
 have f5 := HBR6.out.free 5
 have f6 := HBR6.out.free 6
 have hne9 : r ≠ r9 := HNW.out.2.2.2.2.2.2
 have hne9' : r9 ≠ r := fun e => hne9 e.symm
 clear q7 cF
 go_region_held3 (fun w' => w'.cell? ⟨r9, 0, none⟩ = some (.int .i64 qa) ∧ w'.cell? ⟨r9, 1, none⟩ = some (.int .u64 (qg : Nat)) ∧ w'.cell? ⟨r9, 2, none⟩ = some (.int .u32 (qs : Nat)))
  (first | go_keep | fail)
  (first | (go_at_call 128; refine (cH.out _ (by first | exact (Mods.refl _ _).drew | exact Mods.refl _ _)).mono ?_; rintro e w7 ⟨rfl, hw7⟩; subst hw7) | fail)
 obtain ⟨y1, y2⟩ := seven_sets HBR6.out (.int .u64 (gen : Nat)) (.int .i64 qa) (.int .u64 (qg : Nat)) (.int .u32 (qs : Nat)) (.int .i64 1) (.int .u64 0) (.int .u32 0)
 obtain ⟨w8, hw8⟩ : ∃ w8, (((((((w6.setCell ⟨r, 0, none⟩ (.int .u64 (gen : Nat))).setCell ⟨r, 1, none⟩ (.int .i64 qa)).setCell ⟨r, 2, none⟩ (.int .u64 (qg : Nat))).setCell ⟨r, 3, none⟩ (.int .u32 (qs : Nat))).setCell ⟨r, 4, none⟩ (.int .i64 1)).setCell ⟨r, 5, none⟩ (.int .u64 0)).setCell ⟨r, 6, none⟩ (.int .u32 0)).drew = w8 := ⟨_, rfl⟩
 have hb8 : Blk w8 r 81 [.int .u64 (gen : Nat), .int .i64 qa, .int .u64 (qg : Nat), .int .u32 (qs : Nat), .int .i64 1, .int .u64 0, .int .u32 0] := by rw [← hw8]; exact y1.keep ((Mods.refl [] _).drew) (by simp)
 have hm8 : Mods [r] w6 w8 := by rw [← hw8]; exact y2.drew
 rw [hw8]
 clear hw8 y1 y2
 go_wp2_with fail
 refine bodyPost_ret (results_tctt rfl rfl (load_sup hb8)) rfl ?_
 obtain ⟨n1, n2, n3, n4, n5, n6, n7⟩ := HNW.out
 have hWw := HH.out.own.mods.size
 have hall : ∀ {g : Nat}, g ∈ a.all → g < w.heap.size := fun hg => HH.out.all_lt hg
 have hst8 : StIn W w8 ([tb2, v2] ++ F) x a M2 := (HSt6.out.aside hm8 (fun k hk => by
  rw [List.mem_singleton.1 hk]
  exact ⟨by simp, by omega, fun hg => by have := hall hg; omega⟩)).less (fun g hg => by
   simp only [List.mem_append, List.mem_cons, List.not_mem_nil, or_false] at hg ⊢
   rcases hg with (h | h) | h
   ·exact .inl (.inr (.inr (.inl h)))
   ·exact .inl (.inr (.inr (.inr h)))
   ·exact .inr h) (fun g hg => List.mem_append_right _ (HH.out.mem g hg).1)
 have hrF : r ∉ F := fun hx => by have := HH.out.own.lt r hx; omega
 refine ⟨tb2, v2, rfl, Lib.hid ⟨hst8, HT6.out.keep hm8 (fun hx => n5 (List.mem_singleton.1 hx).symm), HV6.out.keep hm8 (fun hx => n6 (List.mem_singleton.1 hx).symm), ⟨n1, n2, n3⟩, ?_⟩⟩
 exact ((Turn.of HM5.out).trans (Turn.minds (HN6.out.mono (fun g hg => List.mem_append_right _ hg)))).trans ⟨[r], hm8, fun g hg => .inr (by rw [List.mem_singleton.1 hg]; exact hrF)⟩
end
end Go.Proofs.YtkjpdfomppjiiaaGreatDoor
/- A store's tree of one empty leaf is committed: the leaf is saved. -/
namespace Go.Proofs.YtkjpdfomppjiiaaGreatDoor
open Go.RowKit

def lfHead (k gen : Nat) : EHead := ⟨4, (k : Nat), gen⟩
def lfImg (z k gen : Nat) (l : List UInt8) : ByteArray := bA (sealL z (lfHead k gen) l)
def lfPtr (z k gen : Nat) (l : List UInt8) : PtrE := ⟨(k : Nat), gen, crcOn 0 (bareL z (lfHead k gen) l)⟩
section
variable {W w : World} {F : List Nat} {x : Nat → Nat} {a : StA} {M : Mi} {B z nn c gen k : Nat} {rd : Nat → ByteArray}
def SavQ (W w : World) (F : List Nat) (x : Nat → Nat) (a : StA) (M' : Mi) (G : List Nat) (w2 : World) : Prop :=
 OwnM W (G ++ F) w2 a.mb a.p x M' ∧ IsSpace w2 a.pb a.sfp a.S.takeS ∧ Turn F a.sfp w w2
theorem SavQ.bears (h : StIn W w F x a M) (M' : Mi) : Bears w.heap.size (SavQ W w F x a M') := by
 have hl : ∀ {g : Nat}, g ∈ a.sfp → g < w.heap.size := fun hg => h.all_lt (StA.inS hg)
 have hW := h.own.mods.size
 refine ⟨fun G N w2 w3 hm hN hG hq => ⟨hq.1.aside hm (fun k hk => ⟨List.mem_append_left _ (hN k hk), by have := hG k (hN k hk); omega⟩), hq.2.1.keep hm (fun k hk hx => by have h1 := hG k (hN k hx); have h2 := hl hk; omega), hq.2.2.trans ⟨N, hm, fun k hk => .inr (fun hx => by have h1 := hG k (hN k hk); have h2 := h.own.lt k hx; omega)⟩⟩,
  fun G K w2 w3 hm hK hq => ⟨hq.1.protect hm (fun g hg => ?_), hq.2.1.keep hm (by simp), hq.2.2.trans (Turn.of hm)⟩⟩
 simp only [List.mem_append] at hg
 rcases hg with (hg | hg) | hg
 ·exact .inr (hK g hg)
 ·exact .inl (List.mem_append_left _ hg)
 ·exact .inl (List.mem_append_right _ hg)
theorem SavQ.saves (h : StIn W w F x a M) (hw : WS B z nn c M rd) (hc : c ≤ 600000) (hz0 : 128 ≤ z) (hz : z ≤ 1024) (hT : DbTab W) (hk : a.S.tk = some k) (hkB : k < B) (hB : B ≤ 4096) (hgen : gen < 18446744073709551616)
  {w0 : World} (h0 : Mods [] w w0) {c1 c2 : Nat} (h1 : Blk w0 c1 24 [.pointer (some ⟨a.sb, 0, none⟩)]) (h2 : Blk w0 c2 42 [.int .u64 (gen : Nat)]) (h12 : w.heap.size ≤ c1 ∧ w.heap.size ≤ c2) {l : List UInt8} (hl : l.length + 24 ≤ z) :
  Saves w0 w.heap.size (SavQ W w F x a (M.write k (lfImg z k gen l)).2) c1 c2 4 (bA l) (lfPtr z k gen l) := by
 intro w1 G hm hG
 have hwm := h0.trans hm (by simp)
 have hsl : ∀ {g : Nat}, g ∈ a.sfp → g < w.heap.size := fun hg => h.all_lt (StA.inS hg)
 have hI : StIn W w1 ((G ++ [c1, c2]) ++ F) x a M := h.protect hwm (fun g hg => by
  rcases List.mem_append.1 hg with hg | hg
  ·exact hG g hg
  ·have e1 := h1.lt
   have e2 := h2.lt
   have e3 := hm.size
   simp only [List.mem_cons, List.not_mem_nil, or_false] at hg
   rcases hg with rfl | rfl <;> omega)
 have hil : (lfImg z k gen l).size = z := by unfold lfImg; rw [bA_size]; exact sealL_len _ hl
 have hwr := (hw.write hkB hil).1
 have key := stSave1_any (pay := bA l) (kind := 4) hI.own hw.fine hc hz0 hz hT hI.st hI.sum hI.space (h1.keep hm (by simp)) (h2.keep hm (by simp)) (fun g hg => ?_) (fun g hg => hI.mem g (StA.inS hg)) hk hkB hB (by decide) hgen (by rw [bA_size]; exact hl) (by rw [bA_list]; exact hwr)
 ·rw [bA_list] at key
  refine key.mono fun e w2 ⟨k1, k2, k3, k4⟩ => ⟨k1, Lib.hid ⟨k2.out.fewer (fun g hg => ?_), k3.out, (Turn.of hwm).trans (k4.out.mono (fun g hg => List.mem_append_right _ hg) (fun g hg => hg))⟩, Lib.hid ?_⟩
  ·rcases List.mem_append.1 hg with hg | hg
   ·exact List.mem_append_left _ (List.mem_append_left _ hg)
   ·exact List.mem_append_right _ hg
  ·obtain ⟨L, m1, m2⟩ := k4.out
   refine ⟨L, m1, fun g hg hx => ?_⟩
   rcases m2 g hx with h | h
   ·have e1 := hsl h; have e2 := (hG g hg).1; omega
   ·exact h (List.mem_append_left _ (List.mem_append_left _ hg))
 ·simp only [List.mem_cons, List.not_mem_nil, or_false] at hg
  have hn5 : ∀ g ∈ a.sfp, g ∉ a.five := fun g hg => h.off g (List.mem_append_right _ hg)
  rcases hg with rfl | rfl | rfl | rfl
  ·exact ⟨(hI.mem _ (StA.in5 (by simp [StA.five]))).1, fun hx => hn5 _ hx (by simp [StA.five])⟩
  ·exact ⟨(hI.mem _ (StA.in5 (by simp [StA.five]))).1, fun hx => hn5 _ hx (by simp [StA.five])⟩
  ·exact ⟨by simp, fun hx => by have := hsl hx; omega⟩
  ·exact ⟨by simp, fun hx => by have := hsl hx; omega⟩
theorem StIn.spaced {F' : List Nat} {w' : World} {M' : Mi} {S' : Sp} (h : StIn W w F x a M) (ho : OwnM W F' w' a.mb a.p x M') (hs : IsSpace w' a.pb a.sfp S') (ht : Turn F a.sfp w w') (hF : ∀ g ∈ F, g ∈ F') : StIn W w' F' x { a with S := S' } M' := by
 have hx := fun {g : Nat} (hg : g ∈ a.all) => (h.mem g hg).1
 have hn : ∀ {g : Nat}, g ∈ a.five → g ∉ a.sfp := fun hg hs => h.off _ (List.mem_append_right _ hs) hg
 have h5 : ∀ {g : Nat}, g ∈ a.five → g ∈ F ∧ g ∉ a.sfp := fun hg => ⟨hx (StA.in5 hg), hn hg⟩
 have e1 : a.sb ∈ a.five := by simp [StA.five]
 have e2 : a.tk ∈ a.five := by simp [StA.five]
 have e3 : a.ib ∈ a.five := by simp [StA.five]
 have e4 : a.tb ∈ a.five := by simp [StA.five]
 have e5 : a.v ∈ a.five := by simp [StA.five]
 exact ⟨ho, ht.blk h.st (h5 e1).1 (h5 e1).2, ht.blk h.sum (h5 e2).1 (h5 e2).2, ht.cache h.cache (fun g hg => hx (StA.inC hg)) (fun g hg => h.apart g hg), hs, ht.map h.imgs (h5 e3).1 (h5 e3).2, ht.blk h.tree (h5 e4).1 (h5 e4).2, ht.blk h.leaf (h5 e5).1 (h5 e5).2, fun g hg => ⟨hF g (h.mem g hg).1, (h.mem g hg).2⟩, h.nd, h.off, h.apart⟩
theorem ent_none (W : World) : EntP W ⟨none, 0, 0, []⟩ [] := ⟨.inl rfl, rfl, rfl, Nat.le_refl _, fun _ => ⟨rfl, rfl⟩⟩
set_option maxRecDepth 100000 in
set_option maxHeartbeats 3200000 in
theorem stCommit_leaf (h : StIn W w F x a M) (hw : WS B z nn c M rd) (hc : c ≤ 600000) (hz0 : 128 ≤ z) (hz : z ≤ 1024) (hT : DbTab W) (hk : a.S.tk = some k) (hkB : k < B) (hB : B ≤ 4096) (hgen : gen < 18446744073709551616) (hkn : a.kn = false ∧ a.ld = true) {M1 M2 : Mi}
  (hM1 : (M.write k (lfImg z k gen [])).2 = M1) (hM2 : M1.flush.2 = M2) :
  Calls Tryz.prog 70 #[.pointer (some ⟨a.sb, 0, none⟩), .int .u64 (gen : Nat)] w fun e w' => ∃ tb2 v2, e = .returned (.tuple #[.pointer (some ⟨tb2, 0, none⟩), supV ⟨gen, lfPtr z k gen [], 1, 0, 0⟩, .slice none 0 0, .int .i64 0]) ∧ Hid (ComIn W w w' F x a a.S.takeS M2 tb2 v2 (lfPtr z k gen [])) := by
 have hil : (lfImg z k gen []).size = z := by unfold lfImg; rw [bA_size]; exact sealL_len _ (by simp; omega)
 obtain ⟨_, hw1', _, _⟩ := hw.write hkB hil
 rw [hM1] at hw1'
 obtain ⟨f1, _, _, _⟩ := hw1'.flush
 have hfl : M1.flush = (0, M2) := by rw [← hM2, ← f1]
 have hSv := fun {w0 : World} (h0 : Mods [] w w0) {c1 c2 : Nat} h1 h2 h12 => SavQ.saves (l := []) h hw hc hz0 hz hT hk hkB hB hgen h0 (c1 := c1) (c2 := c2) h1 h2 h12 (by simp; omega)
 rw [hM1] at hSv
 replace hSv := Lib.hid (fun (w0 : World) (h0 : Mods [] w w0) (c1 c2 : Nat) h1 h2 h12 => hSv h0 (c1 := c1) (c2 := c2) h1 h2 h12)
 have hBe := Lib.hid (SavQ.bears h M1)
 -- the result's cell
 obtain ⟨w1, hw1⟩ : ∃ w1, w.alloc (.cells #[.int .u64 0, .int .i64 0, .int .u64 0, .int .u32 0, .int .i64 0, .int .u64 0, .int .u32 0] 81) = w1 := ⟨_, rfl⟩
 obtain ⟨r, hr⟩ : ∃ r, w.heap.size = r := ⟨_, rfl⟩
 have hm1 : Mods [] w w1 := by rw [← hw1]; exact (Mods.refl _ _).alloc _
 have hs1 : w1.heap.size = r + 1 := by rw [← hw1, ← hr]; simp
 have hbr : Blk w1 r 81 [.int .u64 0, .int .i64 0, .int .u64 0, .int .u32 0, .int .i64 0, .int .u64 0, .int .u32 0] := by rw [← hw1, ← hr]; exact Blk.new w 81 _
 have hleaf := h.leaf
 rw [hkn.1, hkn.2] at hleaf
 have cC := Lib.hid (trCopy_one (h.tree.keep hm1 (by simp)) (hleaf.keep hm1 (by simp)))
 have H1 := Lib.hid (h.calm hm1)
 have HH := Lib.hid h
 have HM1 := Lib.hid hm1
 have HBR := Lib.hid hbr
 have HS1 := Lib.hid hs1
 have HRW := Lib.hid hr
 have HW := Lib.hid hw1'
 have q12 : w1.cell? ⟨a.sb, 12, none⟩ = some (.pointer (some ⟨a.tb, 0, none⟩)) := H1.out.st.cell (i := 12) rfl
 have hq : supV ⟨gen, lfPtr z k gen [], 1, 0, 0⟩ = .agg #[.int .u64 (gen : Nat), .int .i64 (lfPtr z k gen []).addr, .int .u64 ((lfPtr z k gen []).gen : Nat), .int .u32 ((lfPtr z k gen []).sum : Nat), .int .i64 1, .int .u64 0, .int .u32 0] := rfl
 rw [hq]
 obtain ⟨q, hqq⟩ : ∃ q, lfPtr z k gen [] = q := ⟨_, rfl⟩
 rw [hqq] at hSv ⊢
 obtain ⟨qa, hqa⟩ : ∃ qa, q.addr = qa := ⟨_, rfl⟩
 obtain ⟨qg, hqg⟩ : ∃ qg, q.gen = qg := ⟨_, rfl⟩
 obtain ⟨qs, hqs⟩ : ∃ qs, q.sum = qs := ⟨_, rfl⟩
 have hpq : ptrV q = .agg #[.int .i64 qa, .int .u64 (qg : Nat), .int .u32 (qs : Nat)] := by unfold ptrV; rw [hqa, hqg, hqs]
 rw [hqa, hqg, hqs]
 have HPQ := Lib.hid hpq
 clear h hw hw1' hm1 hs1 hbr hq hqa hqg hqs hqq hpq hk hkn hleaf hM1 hM2 hil f1 hT
 go_enter Tryz.func70, Tryz.ntmps70
 go_upto_region 1 with fail
 try rw [hw1, hr]
 clear hw1 hr
 go_upto_region 2 with (go_at_call 125; refine cC.out.mono ?_; rintro e w2 ⟨tb2, vA, rfl, HT2, HVA, HM2, HL2⟩)
 have hne2 : tb2 ≠ vA := by have := HL2.out; omega
 have HNE2 := Lib.hid hne2
 have HA2 : Hid (Mods [] w w2 ∧ w.heap.size ≤ tb2 ∧ w.heap.size ≤ vA ∧ w.heap.size ≤ r ∧ r < w1.heap.size) := Lib.hid (by
  have h1 := HS1.out; have h2 := HL2.out; have h3 := HRW.out
  exact ⟨HM1.out.trans HM2.out (by simp), by omega, by omega, by omega, by omega⟩)
 clear hne2 q12 cC
 go_upto_region 3 with (first | (go_at_call 127; refine stSave_any.mono ?_; rintro e w3 ⟨c1, c2, rfl, HC1, HC2, HM3, HL3⟩; have HSV3 := Lib.hid (hSv.out w3 (HA2.out.1.trans HM3.out (by simp)) c1 c2 HC1.out HC2.out (by have h1 := HL3.out; have h2 := HA2.out.1.size; omega))) | (go_at_call 126; refine (trCommit_leaf (G0 := [r]) (E := []) (p := ⟨none, 0, 0, []⟩) (fun g hg => by rw [List.mem_singleton.1 hg]; have h1 := HA2.out; have h2 := HM2.out.size; have h3 := HM3.out.size; have h4 := HL2.out; exact ⟨h1.2.2.2.1, by omega, by omega⟩) HSV3.out hBe.out (Mods.refl _ _) ⟨HA2.out.2.1, HA2.out.2.2.1⟩ HNE2.out (HT2.out.keep HM3.out (by simp)) (HVA.out.keep HM3.out (by simp)) (ent_none _) (fun e he => by cases he) (by decide)).mono ?_; rintro e w4 ⟨v2, he, HT4, HV4, HL4, HG4, HK4⟩; rw [HPQ.out] at he; subst he))
 obtain ⟨w5, hw5⟩ : ∃ w5, w4.alloc (.cells #[.int .i64 qa, .int .u64 (qg : Nat), .int .u32 (qs : Nat)] 79) = w5 := ⟨_, rfl⟩
 obtain ⟨r9, hr9⟩ : ∃ r9, w4.heap.size = r9 := ⟨_, rfl⟩
 rw [hw5, hr9]
 have hm45 : Mods [] w4 w5 := by rw [← hw5]; exact (Mods.refl _ _).alloc _
 have hs5 : w5.heap.size = r9 + 1 := by rw [← hw5, ← hr9]; simp
 have hb5 : Blk w5 r9 79 [.int .i64 qa, .int .u64 (qg : Nat), .int .u32 (qs : Nat)] := by rw [← hw5, ← hr9]; exact Blk.new w4 79 _
 obtain ⟨G', ⟨hQ1, hQ2, hQ3⟩, hG1, hG2, hG3, hG4⟩ := HG4.out
 obtain ⟨L4, hL4, hK4⟩ := HK4.out
 have s2 := HL2.out
 have s3 := HL4.out
 have sm2 := HM2.out.size
 have sm3 := HM3.out.size
 have sm4 := hL4.size
 have htl := HT2.out.lt
 have hvl := HV4.out.lt
 have hrr := HA2.out
 have hS4 : StIn W w4 (G' ++ F) x { a with S := a.S.takeS } M1 := HH.out.spaced hQ1 hQ2 hQ3 (fun g hg => List.mem_append_right _ hg)
 have HSt5 := Lib.hid (hS4.protect (G := [r9]) hm45 (fun g hg => by rw [List.mem_singleton.1 hg]; omega))
 have HT5 := Lib.hid (HT4.out.keep hm45 (by simp))
 have HV5 := Lib.hid (HV4.out.keep hm45 (by simp))
 have HBR5 := Lib.hid ((((HBR.out.keep HM2.out (by simp)).keep HM3.out (by simp)).keep hL4 (hK4 r (by simp))).keep hm45 (by simp))
 have HB5 := Lib.hid hb5
 have HM5 : Hid (Turn F a.sfp w w5) := Lib.hid (hQ3.trans (Turn.of hm45))
 have HNW : Hid (w.heap.size ≤ tb2 ∧ w.heap.size ≤ v2 ∧ tb2 ≠ v2 ∧ w.heap.size ≤ r ∧ r ≠ tb2 ∧ r ≠ v2 ∧ r ≠ r9) := Lib.hid (by refine ⟨by omega, by omega, by omega, by omega, by omega, by omega, by omega⟩)
 have HMG : Hid ((tb2 ∈ [r9] ++ (G' ++ F)) ∧ (v2 ∈ [r9] ++ (G' ++ F)) ∧ (r ∈ [r9] ++ (G' ++ F)) ∧ r9 ∈ [r9] ++ (G' ++ F)) := Lib.hid ⟨List.mem_append_right _ (List.mem_append_left _ hG1), List.mem_append_right _ (List.mem_append_left _ hG2), List.mem_append_right _ (List.mem_append_left _ (hG3 r (by simp))), by simp⟩
 have cF := oFlush HSt5.out.own HW.out.fine (show c + 2 ≤ 800000 by omega)
 rw [hfl] at cF
 simp only at cF
 replace cF := Lib.hid cF
 have q7 : w5.cell? ⟨a.sb, 7, none⟩ = some (.pointer (some ⟨a.mb, 0, none⟩)) := HSt5.out.st.cell (i := 7) rfl
 clear hw5 hr9 hm45 hs5 hb5 s2 s3 sm2 sm3 sm4 htl hvl hrr hS4 hQ1 hQ2 hQ3 hG1 hG2 hG3 hG4 hL4 hK4
 go_upto_region 5 with (go_at_call 50; refine cF.out.mono ?_; rintro e w6 ⟨rfl, HO6, HN6⟩)
 have HSt6 := Lib.hid (HSt5.out.go HO6.out HN6.out (fun _ h => h))
 have HT6 := Lib.hid (HN6.out.blk HT5.out HMG.out.1)
 have HV6 := Lib.hid (HN6.out.blk HV5.out HMG.out.2.1)
 have HBR6 := Lib.hid (HN6.out.blk HBR5.out HMG.out.2.2.1)
 have HB6 := Lib.hid (HN6.out.blk HB5.out HMG.out.2.2.2)
 have cH := Lib.hid (fun (w' : World) (hm : Mods [] w6 w') => trHeight_any (HT6.out.keep hm (by simp)))
 have k0 := HB6.out.cell (i := 0) rfl
 have k1 := HB6.out.cell (i := 1) rfl
 have k2 := HB6.out.cell (i := 2) rfl
 have z0 := HBR6.out.cell (i := 0) rfl
 have z1 := HBR6.out.cell (i := 1) rfl
 have z2 := HBR6.out.cell (i := 2) rfl
 have z3 := HBR6.out.cell (i := 3) rfl
 have z4 := HBR6.out.cell (i := 4) rfl
 have z5 := HBR6.out.cell (i := 5) rfl
 have z6 := HBR6.out.cell (i := 6) rfl
 have f0 := HBR6.out.free 0
 have f1 := HBR6.out.free 1
 have f2 := HBR6.out.free 2
 have f3 := HBR6.out.free 3
 have f4 := HBR6.out.free 4
 have f5 := HBR6.out.free 5
 have f6 := HBR6.out.free 6
 have hne9 : r ≠ r9 := HNW.out.2.2.2.2.2.2
 have hne9' : r9 ≠ r := fun e => hne9 e.symm
 clear q7 cF
 go_region_held3 (fun w' => w'.cell? ⟨r9, 0, none⟩ = some (.int .i64 qa) ∧ w'.cell? ⟨r9, 1, none⟩ = some (.int .u64 (qg : Nat)) ∧ w'.cell? ⟨r9, 2, none⟩ = some (.int .u32 (qs : Nat)))
  (first | go_keep | fail)
  (first | (go_at_call 128; refine (cH.out _ (by first | exact (Mods.refl _ _).drew | exact Mods.refl _ _)).mono ?_; rintro e w7 ⟨rfl, hw7⟩; subst hw7) | fail)
 obtain ⟨y1, y2⟩ := seven_sets HBR6.out (.int .u64 (gen : Nat)) (.int .i64 qa) (.int .u64 (qg : Nat)) (.int .u32 (qs : Nat)) (.int .i64 1) (.int .u64 0) (.int .u32 0)
 obtain ⟨w8, hw8⟩ : ∃ w8, (((((((w6.setCell ⟨r, 0, none⟩ (.int .u64 (gen : Nat))).setCell ⟨r, 1, none⟩ (.int .i64 qa)).setCell ⟨r, 2, none⟩ (.int .u64 (qg : Nat))).setCell ⟨r, 3, none⟩ (.int .u32 (qs : Nat))).setCell ⟨r, 4, none⟩ (.int .i64 1)).setCell ⟨r, 5, none⟩ (.int .u64 0)).setCell ⟨r, 6, none⟩ (.int .u32 0)).drew = w8 := ⟨_, rfl⟩
 have hb8 : Blk w8 r 81 [.int .u64 (gen : Nat), .int .i64 qa, .int .u64 (qg : Nat), .int .u32 (qs : Nat), .int .i64 1, .int .u64 0, .int .u32 0] := by rw [← hw8]; exact y1.keep ((Mods.refl [] _).drew) (by simp)
 have hm8 : Mods [r] w6 w8 := by rw [← hw8]; exact y2.drew
 rw [hw8]
 clear hw8 y1 y2
 go_wp2_with fail
 refine bodyPost_ret (results_tctt rfl rfl (load_sup hb8)) rfl ?_
 obtain ⟨n1, n2, n3, n4, n5, n6, n7⟩ := HNW.out
 have hWw := HH.out.own.mods.size
 have hall : ∀ {g : Nat}, g ∈ a.all → g < w.heap.size := fun hg => HH.out.all_lt hg
 have hst8 : StIn W w8 ([tb2, v2] ++ F) x { a with S := a.S.takeS } M2 := (HSt6.out.aside hm8 (fun k hk => by
  rw [List.mem_singleton.1 hk]
  exact ⟨HMG.out.2.2.1, by omega, fun hg => by have := hall hg; omega⟩)).less (fun g hg => by
   simp only [List.mem_append, List.mem_cons, List.not_mem_nil, or_false] at hg
   rcases hg with (h | h) | h
   ·rw [h]; exact HMG.out.1
   ·rw [h]; exact HMG.out.2.1
   ·exact List.mem_append_right _ (List.mem_append_right _ h)) (fun g hg => List.mem_append_right _ (HH.out.mem g hg).1)
 have hrF : r ∉ F := fun hx => by have := HH.out.own.lt r hx; omega
 refine ⟨tb2, v2, rfl, Lib.hid ⟨hst8, HT6.out.keep hm8 (fun hx => n5 (List.mem_singleton.1 hx).symm), HV6.out.keep hm8 (fun hx => n6 (List.mem_singleton.1 hx).symm), ⟨n1, n2, n3⟩, ?_⟩⟩
 exact (HM5.out.trans (Turn.minds (HN6.out.mono (fun g hg => List.mem_append_right _ (List.mem_append_right _ hg))))).trans ⟨[r], hm8, fun g hg => .inr (by rw [List.mem_singleton.1 hg]; exact hrF)⟩
end
end Go.Proofs.YtkjpdfomppjiiaaGreatDoor
/- A store's checkpoint. -/
namespace Go.Proofs.YtkjpdfomppjiiaaGreatDoor
open Go.RowKit

section
variable {W w w' : World} {F G : List Nat} {x : Nat → Nat} {a : StA} {M M' : Mi} {B z nn c gen seq chain : Nat} {rd rd2 : Nat → ByteArray} {S' : Sp} {M2 : Mi} {q : PtrE}
theorem StIn.respace {fp1 : List Nat} (h : StIn W w F x a M) (hm : Mods a.sfp w w') (hs : IsSpace w' a.pb fp1 S') (hn : ∀ k ∈ fp1, k ∈ a.sfp ∨ w.heap.size ≤ k) : StIn W w' (fp1 ++ F) x { a with S := S', sfp := fp1 } M := by
 have hx : ∀ {g : Nat}, g ∈ a.five → g ∉ a.sfp := fun hg hk => h.off _ (List.mem_append_right _ hk) hg
 have e1 : a.sb ∈ a.five := by simp [StA.five]
 have e2 : a.tk ∈ a.five := by simp [StA.five]
 have e3 : a.ib ∈ a.five := by simp [StA.five]
 have e4 : a.tb ∈ a.five := by simp [StA.five]
 have e5 : a.v ∈ a.five := by simp [StA.five]
 have hWw := h.own.mods.size
 refine ⟨h.own.mix hm (fun k hk => h.mem k (StA.inS hk)) (fun g hg => ?_), h.st.keep hm (hx e1), h.sum.keep hm (hx e2), h.cache.keep hm (fun k hk => h.apart k hk), hs, h.imgs.keep hm (hx e3), h.tree.keep hm (hx e4), h.leaf.keep hm (hx e5), fun g hg => ?_, h.nd, fun g hg => ?_, fun g hg hg2 => ?_⟩
 ·rcases List.mem_append.1 hg with hg | hg
  ·rcases hn g hg with h1 | h1
   ·exact .inl (h.mem g (StA.inS h1)).1
   ·exact .inr ⟨h1, hs.lt g hg⟩
  ·exact .inl hg
 ·rcases List.mem_append.1 hg with hg | hg
  ·exact ⟨List.mem_append_right _ (h.mem g (StA.in5 hg)).1, (h.mem g (StA.in5 hg)).2⟩
  ·rcases List.mem_append.1 hg with hg | hg
   ·exact ⟨List.mem_append_right _ (h.mem g (StA.inC hg)).1, (h.mem g (StA.inC hg)).2⟩
   ·refine ⟨List.mem_append_left _ hg, ?_⟩
    rcases hn g hg with h1 | h1
    ·exact (h.mem g (StA.inS h1)).2
    ·omega
 ·rcases List.mem_append.1 hg with hg | hg
  ·exact h.off g (List.mem_append_left _ hg)
  ·rcases hn g hg with h1 | h1
   ·exact h.off g (List.mem_append_right _ h1)
   ·exact fun hx => by have := h.all_lt (StA.in5 hx); omega
 ·rcases hn g hg2 with h1 | h1
  ·exact h.apart g hg h1
  ·have := h.all_lt (StA.inC hg); omega
def StA.after (a : StA) (gen seq chain : Nat) (q : PtrE) (S' : Sp) (fp1 : List Nat) (tb2 v2 ib2 : Nat) : StA :=
 { a with S := S', sfp := fp1, sup := ⟨gen, q, 1, seq, chain⟩, tb := tb2, v := v2, ib := ib2, kn := true, ld := false, q := q }
def CkPost (B z nn : Nat) (W w w' : World) (F : List Nat) (x : Nat → Nat) (a : StA) (M2 : Mi) (rd2 : Nat → ByteArray) (gen seq chain : Nat) (q : PtrE) (S' : Sp) : Prop :=
 ∃ M3 F' fp1 tb2 v2 ib2, StIn W w' F' x (a.after gen seq chain q S'.settleS fp1 tb2 v2 ib2) M3 ∧ WS B z nn 0 M3 (updR rd2 (gen % 2) (bA (supImg z ⟨gen, q, 1, seq, chain⟩))) ∧ (M3.reps = M2.reps ∧ (M2.bl = [] → M3.bl = [])) ∧ Turn F (a.sb :: a.sfp) w w' ∧ (∀ g ∈ F, g ∈ F') ∧ (∀ g ∈ fp1, g ∈ a.sfp ∨ w.heap.size ≤ g) ∧ w.heap.size ≤ tb2 ∧ w.heap.size ≤ v2 ∧ w.heap.size ≤ ib2
set_option maxRecDepth 100000 in
set_option maxHeartbeats 3200000 in
theorem stCheck1_any (h : StIn W w F x a M) (hT : DbTab W) (hst : ¬ a.S.last ≤ a.S.gen) (hg : a.S.gen + 1 = gen)
  (hCom : ∀ w1, StIn W w1 F x { a with S := a.S.step } M → Calls Tryz.prog 70 #[.pointer (some ⟨a.sb, 0, none⟩), .int .u64 (gen : Nat)] w1 fun e w' => ∃ tb2 v2, e = .returned (.tuple #[.pointer (some ⟨tb2, 0, none⟩), supV ⟨gen, q, 1, 0, 0⟩, .slice none 0 0, .int .i64 0]) ∧ Hid (ComIn W w1 w' F x { a with S := a.S.step } S' M2 tb2 v2 q))
  (hw : WS B z nn c M2 rd2) (hc : c ≤ 600000) (hz0 : 128 ≤ z) (hz : z ≤ 1024) (hB : 2 ≤ B) (hok : SupE.Ok ⟨gen, q, 1, seq, chain⟩) :
  Calls Tryz.prog 36 #[.pointer (some ⟨a.sb, 0, none⟩), .int .u64 (seq : Nat), .int .u32 (chain : Nat)] w fun e w' => e = .returned (.int .i64 0) ∧ Hid (CkPost B z nn W w w' F x a M2 rd2 gen seq chain q S') := by
 have hmm := run_makeMapStr
 have hgs : a.S.stepG = gen := by unfold Sp.stepG; rw [if_neg hst]; exact hg
 have hes : a.S.stepE = 0 := by unfold Sp.stepE; rw [if_neg hst]
 have cSt := spStep_any h.space
 rw [hgs, hes] at cSt
 replace cSt := Lib.hid cSt
 have HH := Lib.hid h
 have HC := Lib.hid hCom
 have HW := Lib.hid hw
 have HOK := Lib.hid hok
 have HT := Lib.hid hT
 have q10 : w.cell? ⟨a.sb, 10, none⟩ = some (.pointer (some ⟨a.pb, 0, none⟩)) := h.st.cell (i := 10) rfl
 clear h hCom hw hok hgs hes hst hg hT
 go_enter Tryz.func36, Tryz.ntmps36
 go_upto_region 4 with (go_at_call 69; refine cSt.out.mono ?_; rintro e w1 ⟨rfl, hm1, hs1⟩; have HI1 : Hid (StIn W w1 F x { a with S := a.S.step } M) := Lib.hid (HH.out.spaced (HH.out.own.aside hm1 (fun k hk => HH.out.mem k (StA.inS hk))) hs1 (Turn.ofK hm1) (fun _ h => h)); have HT1 : Hid (Turn F a.sfp w w1) := Lib.hid (Turn.ofK hm1); clear hm1 hs1)
 have cCo := Lib.hid (HC.out w1 HI1.out)
 unfold supV at cCo
 simp only at cCo
 obtain ⟨qa, hqa⟩ : ∃ qa, q.addr = qa := ⟨_, rfl⟩
 obtain ⟨qg, hqg⟩ : ∃ qg, q.gen = qg := ⟨_, rfl⟩
 obtain ⟨qs, hqs⟩ : ∃ qs, q.sum = qs := ⟨_, rfl⟩
 rw [hqa, hqg, hqs] at cCo
 have HQE : Hid (q = ⟨qa, qg, qs⟩) := Lib.hid (by rw [← hqa, ← hqg, ← hqs])
 clear q10 cSt HC
 go_upto_region 5 with (go_at_call 70; refine cCo.out.mono ?_; rintro e w2 ⟨tb2, v2, rfl, HCI⟩)
 obtain ⟨w3, hw3⟩ : ∃ w3, w2.alloc (.cells #[.int .u64 (gen : Nat), .int .i64 qa, .int .u64 (qg : Nat), .int .u32 (qs : Nat), .int .i64 1, .int .u64 0, .int .u32 0] 81) = w3 := ⟨_, rfl⟩
 obtain ⟨bb, hbb⟩ : ∃ bb, w2.heap.size = bb := ⟨_, rfl⟩
 have hm3 : Mods [] w2 w3 := by rw [← hw3]; exact (Mods.refl _ _).alloc _
 have hs3 : w3.heap.size = bb + 1 := by rw [← hw3, ← hbb]; simp
 have hb3 : Blk w3 bb 81 [.int .u64 (gen : Nat), .int .i64 qa, .int .u64 (qg : Nat), .int .u32 (qs : Nat), .int .i64 1, .int .u64 0, .int .u32 0] := by rw [← hw3, ← hbb]; exact Blk.new w2 81 _
 have HI3 := Lib.hid (HCI.out.st.protect (G := [bb]) hm3 (fun g hg => by rw [List.mem_singleton.1 hg]; omega))
 have z5 := hb3.cell (i := 5) rfl
 have z6 := hb3.cell (i := 6) rfl
 have f5 := hb3.free 5
 have f6 := hb3.free 6
 have HB3 := Lib.hid hb3
 have HM3 := Lib.hid hm3
 have HBB := Lib.hid hbb
 rw [hw3, hbb]
 clear hw3 hbb hm3 hs3 hb3 cCo
 go_upto_region 6 with fail
 obtain ⟨w4, hw4⟩ : ∃ w4, (w3.setCell ⟨bb, 5, none⟩ (.int .u64 (seq : Nat))).setCell ⟨bb, 6, none⟩ (.int .u32 (chain : Nat)) = w4 := ⟨_, rfl⟩
 have hb4 : Blk w4 bb 81 [.int .u64 (gen : Nat), .int .i64 qa, .int .u64 (qg : Nat), .int .u32 (qs : Nat), .int .i64 1, .int .u64 (seq : Nat), .int .u32 (chain : Nat)] := by rw [← hw4]; exact (HB3.out.set 5 _).set 6 _
 have hm4 : Mods [bb] w3 w4 := by rw [← hw4]; exact ((Mods.refl _ _).setCell (.inl (by simp)) _).setCell (.inl (by simp)) _
 have hWw2 := HCI.out.st.own.mods.size
 have hbbn : ∀ {g : Nat}, g ∈ a.all → g ≠ bb := fun hg e => by have h1 := HCI.out.st.all_lt (g := _) hg; have h2 := HBB.out; omega
 have HI4 : Hid (StIn W w4 ([bb] ++ ([tb2, v2] ++ F)) x { a with S := S' } M2) := Lib.hid (HI3.out.aside hm4 (fun k hk => by
  rw [List.mem_singleton.1 hk]
  exact ⟨by simp, by have := HBB.out; omega, fun hg => hbbn hg rfl⟩))
 have k0 := hb4.cell (i := 0) rfl
 have k1 := hb4.cell (i := 1) rfl
 have k2 := hb4.cell (i := 2) rfl
 have k3 := hb4.cell (i := 3) rfl
 have k4 := hb4.cell (i := 4) rfl
 have k5 := hb4.cell (i := 5) rfl
 have k6 := hb4.cell (i := 6) rfl
 have cB := stBegin_any (b := ⟨gen, q, 1, seq, chain⟩) HI4.out.own HW.out hc hz0 hz HI4.out.st HI4.out.sum ⟨(HI4.out.mem _ (StA.in5 (by simp [StA.five]))).1, (HI4.out.mem _ (StA.in5 (by simp [StA.five]))).1⟩ HOK.out hB
 unfold supV at cB
 simp only at cB
 rw [hqa, hqg, hqs] at cB
 replace cB := Lib.hid cB
 have HB4 := Lib.hid hb4
 have HM4 := Lib.hid hm4
 rw [hw4]
 clear hw4 hb4 hm4 z5 z6 f5 f6 hWw2 hbbn hqa hqg hqs
 go_upto_region 11 with (go_at_call 71; refine cB.out.mono ?_; rintro e w5 ⟨M3, rfl, HO5, HW5, HR5, HN5⟩)
 have HI5 := Lib.hid (HI4.out.go HO5.out HN5.out (fun _ h => h))
 have HB5 := Lib.hid (HN5.out.blk HB4.out (by simp))
 clear k0 k1 k2 k3 k4 k5 k6 cB
 go_wp2_with fail
 refine wp_loop_rounds 1 ?_
 rw [rounds_succ]
 have cSe := Lib.hid (spSettle_any HI5.out.space (HI5.out.own.tab HT.out))
 have q10 : w5.cell? ⟨a.sb, 10, none⟩ = some (.pointer (some ⟨a.pb, 0, none⟩)) := HI5.out.st.cell (i := 10) rfl
 go_upto_region 18 with (go_at_call 75; refine cSe.out.mono ?_; rintro e w6 ⟨rfl, hm6, fp1, hs6, hn6⟩; have HI6 := Lib.hid (HI5.out.respace hm6 hs6 hn6); have HT6 : Hid (Mods a.sfp w5 w6 ∧ ∀ k ∈ fp1, k ∈ a.sfp ∨ w5.heap.size ≤ k) := Lib.hid ⟨hm6, hn6⟩; clear hm6 hs6 hn6)
 have hbs : bb ∉ a.sfp := fun hx => by have h1 := HH.out.all_lt (StA.inS hx); have h2 := HBB.out; have h3 := HCI.out.kept.size; have h4 := HT1.out.size; omega
 have HB6 := Lib.hid (HB5.out.keep HT6.out.1 hbs)
 have k0 := HB6.out.cell (i := 0) rfl
 have k1 := HB6.out.cell (i := 1) rfl
 have k2 := HB6.out.cell (i := 2) rfl
 have k3 := HB6.out.cell (i := 3) rfl
 have k4 := HB6.out.cell (i := 4) rfl
 have k5 := HB6.out.cell (i := 5) rfl
 have k6 := HB6.out.cell (i := 6) rfl
 have j12 := HI6.out.st.cell (i := 12) rfl
 have j13 := HI6.out.st.cell (i := 13) rfl
 have j14 := HI6.out.st.cell (i := 14) rfl
 have j15 := HI6.out.st.cell (i := 15) rfl
 have j16 := HI6.out.st.cell (i := 16) rfl
 have j17 := HI6.out.st.cell (i := 17) rfl
 have j18 := HI6.out.st.cell (i := 18) rfl
 have j19 := HI6.out.st.cell (i := 19) rfl
 have j20 := HI6.out.st.cell (i := 20) rfl
 have j21 := HI6.out.st.cell (i := 21) rfl
 have j22 := HI6.out.st.cell (i := 22) rfl
 have f12 := HI6.out.st.free 12
 have f13 := HI6.out.st.free 13
 have f14 := HI6.out.st.free 14
 have f15 := HI6.out.st.free 15
 have f16 := HI6.out.st.free 16
 have f17 := HI6.out.st.free 17
 have f18 := HI6.out.st.free 18
 have f19 := HI6.out.st.free 19
 have f20 := HI6.out.st.free 20
 have f21 := HI6.out.st.free 21
 have f22 := HI6.out.st.free 22
 have hnb : bb ≠ a.sb := fun e => by have h1 := HH.out.all_lt (a := a) (StA.in5 (by simp [StA.five] : a.sb ∈ a.five)); have h2 := HBB.out; have h3 := HCI.out.kept.size; have h4 := HT1.out.size; omega
 have hnb2 : a.sb ≠ bb := fun e => hnb e.symm
 simp only at j12 j13 j14 j15 j16 j17 j18 j19 j20 j21 j22 f12 f13 f14 f15 f16 f17 f18 f19 f20 f21 f22
 go_region
 obtain ⟨w7, hw7⟩ : ∃ w7, ((((((((w6.setCell ⟨a.sb, 12, none⟩ (.pointer (some ⟨tb2, 0, none⟩))).setCell ⟨a.sb, 13, none⟩ (.int .u64 (gen : Nat))).setCell ⟨a.sb, 14, none⟩ (.int .i64 qa)).setCell ⟨a.sb, 15, none⟩ (.int .u64 (qg : Nat))).setCell ⟨a.sb, 16, none⟩ (.int .u32 (qs : Nat))).setCell ⟨a.sb, 17, none⟩ (.int .i64 1)).setCell ⟨a.sb, 18, none⟩ (.int .u64 (seq : Nat))).setCell ⟨a.sb, 19, none⟩ (.int .u32 (chain : Nat))).drew = w7 := ⟨_, rfl⟩
 have hb7 := ((((((((HI6.out.st.set 12 (.pointer (some ⟨tb2, 0, none⟩))).set 13 (.int .u64 (gen : Nat))).set 14 (.int .i64 qa)).set 15 (.int .u64 (qg : Nat))).set 16 (.int .u32 (qs : Nat))).set 17 (.int .i64 1)).set 18 (.int .u64 (seq : Nat))).set 19 (.int .u32 (chain : Nat))).keep ((Mods.refl [] _).drew) (by simp)
 have hm7 : Mods [a.sb] w6 w7 := by
  rw [← hw7]
  exact (((((((((Mods.refl _ _).setCell (.inl (by simp)) _).setCell (.inl (by simp)) _).setCell (.inl (by simp)) _).setCell (.inl (by simp)) _).setCell (.inl (by simp)) _).setCell (.inl (by simp)) _).setCell (.inl (by simp)) _).setCell (.inl (by simp)) _).drew
 rw [hw7] at hb7
 have HB7 := Lib.hid hb7
 have HM7 := Lib.hid hm7
 have HQQ : Hid (q = ⟨qa, qg, qs⟩) := HQE
 have d20 : ∀ o, (w7.alloc o).cell? ⟨a.sb, 20, none⟩ = some (.slice none 0 0) := fun o => (hb7.alloc o).cell (i := 20) rfl
 have d21 : ∀ o, (w7.alloc o).cell? ⟨a.sb, 21, none⟩ = some (.int .i64 0) := fun o => (hb7.alloc o).cell (i := 21) rfl
 have d22 : ∀ o, (w7.alloc o).cell? ⟨a.sb, 22, none⟩ = some (.map (some a.ib)) := fun o => (hb7.alloc o).cell (i := 22) rfl
 have g20 : ∀ o, (w7.alloc o).frozen? ⟨a.sb, 20, none⟩ = false := fun o => (hb7.alloc o).free 20
 have g21 : ∀ o, (w7.alloc o).frozen? ⟨a.sb, 21, none⟩ = false := fun o => (hb7.alloc o).free 21
 have g22 : ∀ o, (w7.alloc o).frozen? ⟨a.sb, 22, none⟩ = false := fun o => (hb7.alloc o).free 22
 rw [hw7]
 clear hw7 hb7 hm7 k0 k1 k2 k3 k4 k5 k6 j12 j13 j14 j15 j16 j17 j18 j19 j20 j21 j22 f12 f13 f14 f15 f16 f17 f18 f19 f20 f21 f22 cSe q10
 go_upto_region 20 with fail
 obtain ⟨w8, hw8⟩ : ∃ w8, (((w7.alloc (.map #[] 0)).setCell ⟨a.sb, 20, none⟩ (.slice none 0 0)).setCell ⟨a.sb, 21, none⟩ (.int .i64 0)).setCell ⟨a.sb, 22, none⟩ (.map (some w7.heap.size)) = w8 := ⟨_, rfl⟩
 obtain ⟨ib2, hib⟩ : ∃ ib2, w7.heap.size = ib2 := ⟨_, rfl⟩
 have hb8 := ((HB7.out.alloc (.map #[] 0)).set 20 (.slice none 0 0) |>.set 21 (.int .i64 0) |>.set 22 (.map (some w7.heap.size)))
 rw [hw8] at hb8
 have hmA : Mods [a.sb] (w7.alloc (.map #[] 0)) w8 := by rw [← hw8]; exact (((Mods.refl _ _).setCell (.inl (by simp)) _).setCell (.inl (by simp)) _).setCell (.inl (by simp)) _
 have hm8 : Mods [a.sb] w7 w8 := (((Mods.refl [] w7).alloc (.map #[] 0)).mono (by simp) : Mods [a.sb] w7 (w7.alloc (.map #[] 0))).trans hmA (fun k hk => .inl hk)
 rw [hw8]
 clear hw8 d20 d21 d22 g20 g21 g22
 go_wp2_with fail
 go_ret
 have s1 := HT1.out.size
 have s2 := HCI.out.kept.size
 have n2 := HCI.out.new
 have l1 := HCI.out.tree.lt
 have l2 := HCI.out.leaf.lt
 have sbb := HBB.out
 have s3 := HM3.out.size
 have s4 := HM4.out.size
 have s5 := HN5.out.size
 have s6 := HT6.out.1.size
 have s7 := HM7.out.size
 have s8 := hm8.size
 have hsA : (w7.alloc (.map #[] 0)).heap.size = w7.heap.size + 1 := by simp
 have s8A := hmA.size
 have hWw := HH.out.own.mods.size
 have hall : ∀ {g : Nat}, g ∈ a.all → g < w.heap.size := fun hg => HH.out.all_lt hg
 have e1 : a.sb ∈ a.five := by simp [StA.five]
 have e2 : a.tk ∈ a.five := by simp [StA.five]
 have lsb := hall (StA.in5 e1)
 have ltk := hall (StA.in5 e2)
 have hnd := HH.out.nd
 unfold StA.five at hnd
 simp only [List.nodup_cons, List.mem_cons, List.not_mem_nil, or_false, not_or, not_false_eq_true, List.nodup_nil, and_true] at hnd
 have hm68 : Mods [a.sb] w6 w8 := HM7.out.trans hm8 (fun k hk => .inl hk)
 have htk : a.tk ∉ [a.sb] := by simp; omega
 have hF5 : ∀ g ∈ F, g ∈ [bb] ++ ([tb2, v2] ++ F) := fun g hg => List.mem_append_right _ (List.mem_append_right _ hg)
 have hts : tb2 ∉ a.sfp := fun hx => by have := hall (StA.inS hx); omega
 have hvs : v2 ∉ a.sfp := fun hx => by have := hall (StA.inS hx); omega
 have htree : Blk w8 tb2 153 (treeC a.cf.plan a.sb v2 1 nilS 0 0) := ((((HN5.out.blk ((HCI.out.tree.keep HM3.out (by simp)).keep HM4.out (by simp; omega)) (by simp)).keep HT6.out.1 hts)).keep hm68 (by simp; omega))
 have hleaf : Blk w8 v2 151 (vC true q false nilS nilS nilS nilS) := ((((HN5.out.blk ((HCI.out.leaf.keep HM3.out (by simp)).keep HM4.out (by simp; omega)) (by simp)).keep HT6.out.1 hvs)).keep hm68 (by simp; omega))
 have hown : OwnM W (ib2 :: (fp1 ++ ([bb] ++ ([tb2, v2] ++ F)))) w8 a.mb a.p x M3 := HI6.out.own.mix hm68 (fun k hk => by
  rw [List.mem_singleton.1 hk]
  exact ⟨List.mem_append_right _ (hF5 _ (HH.out.mem _ (StA.in5 e1)).1), (HH.out.mem _ (StA.in5 e1)).2⟩) (fun g hg => by
  rcases List.mem_cons.1 hg with rfl | hg
  ·exact .inr ⟨by omega, by omega⟩
  ·exact .inl hg)
 have hfp : ∀ g ∈ fp1, (g ∈ a.sfp ∨ w5.heap.size ≤ g) ∧ g < w6.heap.size := fun g hg => ⟨HT6.out.2 g hg, HI6.out.space.lt g hg⟩
 have hsoff : ∀ {g : Nat}, g ∈ a.sfp → g ≠ a.sb ∧ g ≠ a.tk := fun {g} hg => by
  have := HH.out.off g (List.mem_append_right _ hg)
  unfold StA.five at this
  simp only [List.mem_cons, List.not_mem_nil, or_false, not_or] at this
  exact ⟨this.1, this.2.1⟩
 have hcoff : ∀ {g : Nat}, g ∈ a.cfp → g ≠ a.sb ∧ g ≠ a.tk := fun {g} hg => by
  have := HH.out.off g (List.mem_append_left _ hg)
  unfold StA.five at this
  simp only [List.mem_cons, List.not_mem_nil, or_false, not_or] at this
  exact ⟨this.1, this.2.1⟩
 have hfpn : ∀ g ∈ fp1, g ≠ a.sb ∧ g ≠ a.tk ∧ g ≠ tb2 ∧ g ≠ v2 ∧ g ≠ ib2 := fun g hg => by
  obtain ⟨h1, h2⟩ := hfp g hg
  rcases h1 with h1 | h1
  ·have k1 := hsoff h1
   have k2 := hall (StA.inS h1)
   exact ⟨k1.1, k1.2, by omega, by omega, by omega⟩
  ·exact ⟨by omega, by omega, by omega, by omega, by omega⟩
 refine ⟨rfl, Lib.hid ⟨M3, ib2 :: (fp1 ++ ([bb] ++ ([tb2, v2] ++ F))), fp1, tb2, v2, ib2, ⟨hown, ?_, HI6.out.sum.keep hm68 htk, HI6.out.cache.keep hm68 (fun k hk hx => (hcoff hk).1 (List.mem_singleton.1 hx)), HI6.out.space.keep hm68 (fun k hk hx => (hfpn k hk).1 (List.mem_singleton.1 hx)), ?_, htree, hleaf, fun g hg => ?_, ?_, fun g hg => ?_, HI6.out.apart⟩, HW5.out, HR5.out, ?_, (fun g hg => List.mem_cons_of_mem _ (List.mem_append_right _ (hF5 g hg))), fun g hg => (hfp g hg).1.imp id (fun h => by omega), by omega, by omega, by omega⟩⟩
 ·rw [hib] at hb8
  unfold StA.after StA.cells
  simp only
  rw [HQQ.out]
  exact hb8
 ·have := (MapK.made (kv := kvN) w7).keep hmA (by simp; omega)
  rw [hib] at this
  exact this
 ·simp only [StA.all, StA.five, StA.after, List.mem_append, List.mem_cons, List.not_mem_nil, or_false] at hg
  have hin : ∀ {g : Nat}, g ∈ a.all → g ∈ ib2 :: (fp1 ++ ([bb] ++ ([tb2, v2] ++ F))) ∧ W.heap.size ≤ g := fun hg => ⟨List.mem_cons_of_mem _ (List.mem_append_right _ (hF5 _ (HH.out.mem _ hg).1)), (HH.out.mem _ hg).2⟩
  rcases hg with (rfl | rfl | rfl | rfl | rfl) | hg | hg
  ·exact hin (StA.in5 e1)
  ·exact hin (StA.in5 e2)
  ·exact ⟨by simp, by omega⟩
  ·exact ⟨by simp, by omega⟩
  ·exact ⟨by simp, by omega⟩
  ·exact hin (StA.inC hg)
  ·refine ⟨List.mem_cons_of_mem _ (List.mem_append_left _ hg), ?_⟩
   rcases (hfp g hg).1 with h1 | h1
   ·exact (HH.out.mem g (StA.inS h1)).2
   ·omega
 ·show [a.sb, a.tk, ib2, tb2, v2].Nodup
  simp only [List.nodup_cons, List.mem_cons, List.not_mem_nil, or_false, not_or, not_false_eq_true, List.nodup_nil, and_true]
  omega
 ·show g ∉ [a.sb, a.tk, ib2, tb2, v2]
  rcases List.mem_append.1 hg with hg | hg
  ·have k1 := hcoff hg
   have k2 := hall (StA.inC hg)
   simp only [List.mem_cons, List.not_mem_nil, or_false, not_or]
   exact ⟨k1.1, k1.2, by omega, by omega, by omega⟩
  ·obtain ⟨k1, k2, k3, k4, k5⟩ := hfpn g hg
   simp only [List.mem_cons, List.not_mem_nil, or_false, not_or]
   exact ⟨k1, k2, k5, k3, k4⟩
 ·have t1 : Turn F (a.sb :: a.sfp) w w2 := (HT1.out.trans HCI.out.kept).mono (fun _ h => h) (fun k hk => List.mem_cons_of_mem _ hk)
  have hbF : bb ∉ F := fun hx => by have := HH.out.own.lt bb hx; omega
  exact ((((t1.trans (Turn.of HM3.out)).trans ⟨[bb], HM4.out, fun k hk => .inr (by rw [List.mem_singleton.1 hk]; exact hbF)⟩).trans (Turn.minds (HN5.out.mono hF5))).trans ⟨a.sfp, HT6.out.1, fun k hk => .inl (List.mem_cons_of_mem _ hk)⟩).trans ⟨[a.sb], hm68, fun k hk => .inl (by rw [List.mem_singleton.1 hk]; simp)⟩
end
end Go.Proofs.YtkjpdfomppjiiaaGreatDoor
namespace Go.Proofs.YtkjpdfomppjiiaaGreatDoor
open Go.RowKit

structure PrIn (W w : World) (F : List Nat) (p : Nat) (gp : List Nat) (x : Nat → Nat) (fx : Nat → List Nat) (P : Pr) : Prop where
 is : IsPair w p gp x fx P
 mods : Mods [] W w
 dev : ∀ k, k < 2 → ∀ g ∈ fx k, W.heap.size ≤ g ∧ g ∉ F
 own : ∀ g ∈ gp, W.heap.size ≤ g ∧ g ∉ F
 lt : ∀ g ∈ F, g < w.heap.size
section
variable {W w w' : World} {F : List Nat} {p : Nat} {gp : List Nat} {x : Nat → Nat} {fx : Nat → List Nat} {P : Pr} {c : CfE} {sb mb tb mmb tk cb ib : Nat} {cfp : List Nat} {B z n : Nat}
theorem PrIn.keep (h : PrIn W w F p gp x fx P) (hm : Mods [] w w') : PrIn W w' F p gp x fx P :=
 ⟨h.is.keep0 hm, h.mods.trans hm (by simp), h.dev, h.own, fun g hg => Nat.lt_of_lt_of_le (h.lt g hg) hm.size⟩
theorem MadeIn.own (h : MadeIn w w' c p sb mb tb mmb tk cb ib cfp) (hp : PrIn W w F p gp x fx P) : OwnM W ([sb, tk, ib] ++ cfp ++ F) w' mb p x ⟨P, [], 0⟩ := by
 have hW := hp.mods.size
 have hn := fun g hg => h.new g hg
 have h6 := h.nd.1
 have hc := h.nd.2
 simp only [List.nodup_cons, List.mem_cons, List.not_mem_nil, or_false, not_or, not_false_eq_true, List.nodup_nil, and_true] at h6
 have b1 := hn mb (by simp)
 have b2 := hn tb (by simp)
 have b3 := hn mmb (by simp)
 have b4 := hn sb (by simp)
 have b5 := hn tk (by simp)
 have b6 := hn ib (by simp)
 have hpl : ∀ g ∈ gp, g < w.heap.size := fun g hg => hp.is.pb.lt g hg
 have hdl : ∀ k, k < 2 → ∀ g ∈ fx k, g < w.heap.size := fun k hk g hg => (hp.is.dev k hk).lt g hg
 have hnF : ∀ {g : Nat}, w.heap.size ≤ g → g ∉ F := fun hg hx => by have := hp.lt _ hx; omega
 have old : ∀ {g : Nat}, g < w.heap.size → g ∉ F → g ∉ [sb, tk, ib] ++ cfp ++ F := fun {g} hg hF hx => by
  simp only [List.mem_append, List.mem_cons, List.not_mem_nil, or_false] at hx
  rcases hx with ((rfl | rfl | rfl) | hx) | hx
  ·omega
  ·omega
  ·omega
  ·have := hn g (by simp [hx]); omega
  ·exact hF hx
 have hmem : ∀ {g : Nat}, g = mb ∨ g = tb ∨ g = mmb → g ∉ [sb, tk, ib] ++ cfp ++ F := fun {g} hg hx => by
  simp only [List.mem_append, List.mem_cons, List.not_mem_nil, or_false] at hx
  rcases hx with ((hx | hx | hx) | hx) | hx
  ·omega
  ·omega
  ·omega
  ·have := hc g hx
   simp only [List.mem_cons, List.not_mem_nil, or_false, not_or] at this
   omega
  ·exact hnF (by omega) hx
 refine ⟨⟨tb, mmb, gp, fx, ⟨h.mir, h.sum, by rw [badF_nil]; exact h.map, List.nodup_nil, hp.is.keep0 h.mods, fun g hg => ?_, fun k hk g hg => ?_⟩, fun g hg => ?_⟩, hp.mods.trans h.mods (by simp), fun g hg => ?_⟩
 ·have := hpl g hg; exact ⟨by omega, by omega, by omega⟩
 ·have := hdl k hk g hg; exact ⟨by omega, by omega, by omega⟩
 ·rcases hg with hg | hg | hg | hg | hg | hg
  ·exact ⟨by omega, hmem (.inl hg)⟩
  ·exact ⟨by omega, hmem (.inr (.inl hg))⟩
  ·exact ⟨by omega, hmem (.inr (.inr hg))⟩
  ·exact ⟨(hp.own g hg).1, old (hpl g hg) (hp.own g hg).2⟩
  ·exact ⟨(hp.dev 0 (by decide) g hg).1, old (hdl 0 (by decide) g hg) (hp.dev 0 (by decide) g hg).2⟩
  ·exact ⟨(hp.dev 1 (by decide) g hg).1, old (hdl 1 (by decide) g hg) (hp.dev 1 (by decide) g hg).2⟩
 ·simp only [List.mem_append, List.mem_cons, List.not_mem_nil, or_false] at hg
  rcases hg with ((rfl | rfl | rfl) | hg) | hg
  ·omega
  ·omega
  ·omega
  ·exact (hn g (by simp [hg])).2
  ·have := hp.lt g hg; have := h.mods.size; omega
end
def StA.zero (c : CfE) (sb mb p tk cb ib pb tb v : Nat) (cfp sfp : List Nat) (S : Sp) : StA :=
 { cf := c, sb := sb, mb := mb, p := p, tk := tk, cb := cb, ib := ib, pb := pb, tb := tb, v := v, cfp := cfp, sfp := sfp, lg := .pointer none, sup := supZero, S := S, R := [], c0 := 0, c1 := 0, t := 0, kn := false, ld := true, q := ⟨0, 0, 0⟩ }
section
variable {W w : World} {F : List Nat} {x : Nat → Nat} {fx : Nat → List Nat} {c : CfE} {B z k : Nat}
def FmPost (B z : Nat) (W w w' : World) (F : List Nat) (x : Nat → Nat) (c : CfE) (k : Nat) : Prop :=
 ∃ F' a M, StIn W w' F' x a M ∧ (∀ g ∈ F, g ∈ F') ∧ Minds F w w' ∧ M.reps = 0 ∧ M.bl = [] ∧
  WS B z c.spares 0 M (updR (updR (fun _ => bA (zerosL z)) k (lfImg z k 1 [])) 1 (bA (supImg z ⟨1, lfPtr z k 1 [], 1, 1, 0⟩)))
set_option maxRecDepth 100000 in
set_option maxHeartbeats 3200000 in
theorem stFormat_any (h : Devs w x fx (fun _ => Dev.new (B + 4 + c.spares) z)) (hW : Mods [] W w) (hx : ∀ k, k < 2 → ∀ g ∈ fx k, W.heap.size ≤ g ∧ g ∉ F) (hF : ∀ g ∈ F, g < w.heap.size) (hT : DbTab W)
  (hr : Dev.right ((B + 4 + c.spares : Nat) : Int) (z : Int) = true) (h1 : c.spares ≤ 32) (h2 : 8 + 2 * c.spares + 24 ≤ z) (hc : c.Ok B z) (hk : (Sp.new B (2 + c.log) 0 c.last).step.tk = some k) (hkB : k < B) :
  Calls Tryz.prog 14 #[.pointer (some ⟨x 0, 0, none⟩), .pointer (some ⟨x 1, 0, none⟩), cfV c] w fun e w' => e = .returned (.int .i64 0) ∧ Hid (FmPost B z W w w' F x c k) := by
 have hlr := hc.room
 obtain ⟨hfit, P', k1, k2, k3⟩ := fresh_gm B z c.spares hr h1 h2 (by omega)
 have cF := Lib.hid (fun (w' : World) (hm : Mods [] w w') => rFormat_any (h.keep0 hm) c.spares hfit (fun _ _ => by show (0 : Nat) + 2 < 1000000; omega) k1 (by rw [k2]))
 rw [k2] at cF
 simp only at cF
 have HK := Lib.hid k3
 have HC := Lib.hid hc
 have HX := Lib.hid hx
 have HFF := Lib.hid hF
 have HWW := Lib.hid hW
 have HTT := Lib.hid hT
 have HKK := Lib.hid (And.intro hk hkB)
 have hsz := right_parts hr
 have HSZ := Lib.hid hsz
 have hfxl : Hid (∀ k, k < 2 → ∀ g ∈ fx k, g < w.heap.size) := Lib.hid (fun k hk g hg => (h.devs k hk).lt g hg)
 have cM := Lib.hid (fun (w' : World) (gp : List Nat) (fx' : Nat → List Nat) (p : Nat) (hI : IsPair w' p gp x fx' P') => stMade_ok hI k3.gm.size (by rw [k3.tab 0 (by decide)]) hc)
 have cFi := Lib.hid (fun W => cfFirst_any (W := W) c hc.log.2)
 have cSp := Lib.hid (fun (w' : World) => spNew_any w' B (2 + c.log) 0 c.last hc.blocks (by omega) (Nat.zero_le _) hc.last.2)
 clear k1 k2 k3 hfit hr h1 h2 hx hF hW hT hk hkB hsz hc hlr
 obtain ⟨sp, lg, ca, ⟨fan, buf, leaf⟩, la⟩ := c
 unfold cfV at *
 simp only at *
 obtain ⟨w1, hw1⟩ : ∃ w1, w.alloc (.cells #[.int .i64 (sp : Nat), .int .i64 (lg : Nat), .int .i64 (ca : Nat), .int .i64 fan, .int .i64 buf, .int .i64 leaf, .int .u64 (la : Nat)] 44) = w1 := ⟨_, rfl⟩
 obtain ⟨g, hg⟩ : ∃ g, w.heap.size = g := ⟨_, rfl⟩
 have hb1 : Blk w1 g 44 [.int .i64 (sp : Nat), .int .i64 (lg : Nat), .int .i64 (ca : Nat), .int .i64 fan, .int .i64 buf, .int .i64 leaf, .int .u64 (la : Nat)] := by rw [← hw1, ← hg]; exact Blk.new w 44 _
 have hm1 : Mods [] w w1 := by rw [← hw1]; exact (Mods.refl _ _).alloc _
 have hs1 : w1.heap.size = g + 1 := by rw [← hw1, ← hg]; simp
 have HM1 := Lib.hid hm1
 have HB1 := Lib.hid hb1
 have HG := Lib.hid (And.intro hg hs1)
 have q0 := hb1.cell (i := 0) rfl
 have q1 := hb1.cell (i := 1) rfl
 have q2 := hb1.cell (i := 2) rfl
 have q3 := hb1.cell (i := 3) rfl
 have q4 := hb1.cell (i := 4) rfl
 have q5 := hb1.cell (i := 5) rfl
 have q6 := hb1.cell (i := 6) rfl
 clear hb1 hm1 h hs1
 go_enter Tryz.func14, Tryz.ntmps14
 go_upto_region 1 with fail
 try rw [hw1, hg]
 clear hw1 hg
 go_upto_region 4 with (go_at_call 28; refine (cF.out _ HM1.out).mono ?_; rintro e w2 ⟨p, gp, fx', rfl, HP, HM2, HN2, HG2⟩)
 have hgfx : ∀ k, k < 2 → g ∉ fx k := fun k hk hx => by have h1 := hfxl.out k hk g hx; have h2 := HG.out.1; omega
 have hg2 : g ∉ fx 0 ++ fx 1 := fun hx => by
  rcases List.mem_append.1 hx with h | h
  ·exact hgfx 0 (by decide) h
  ·exact hgfx 1 (by decide) h
 have hb2 := HB1.out.keep HM2.out hg2
 clear q0 q1 q2 q3 q4 q5 q6
 have q0 := hb2.cell (i := 0) rfl
 have q1 := hb2.cell (i := 1) rfl
 have q2 := hb2.cell (i := 2) rfl
 have q3 := hb2.cell (i := 3) rfl
 have q4 := hb2.cell (i := 4) rfl
 have q5 := hb2.cell (i := 5) rfl
 have q6 := hb2.cell (i := 6) rfl
 have HB2 := Lib.hid hb2
 have HPI : Hid (PrIn W w2 F p gp x fx' P') := Lib.hid (by
  have hWw := HWW.out.size
  have hgg := HG.out
  refine ⟨HP.out, (HWW.out.trans HM1.out (by simp)).trans HM2.out (fun k hk => .inr ?_), fun k hk g' hg' => ?_, fun g' hg' => ?_, fun g' hg' => ?_⟩
  ·rcases List.mem_append.1 hk with h | h
   ·exact (HX.out 0 (by decide) k h).1
   ·exact (HX.out 1 (by decide) k h).1
  ·rcases HN2.out k hk g' hg' with h | h
   ·exact HX.out k hk g' h
   ·exact ⟨by omega, fun hx => by have := HFF.out g' hx; omega⟩
  ·have h := HG2.out g' hg'
   exact ⟨by omega, fun hx => by have := HFF.out g' hx; omega⟩
  ·have h1 := HFF.out g' hg'
   have h2 := HM1.out.size
   have h3 := HM2.out.size
   omega)
 clear hb2 hgfx hg2 cF
 go_upto_region 7 with (go_at_call 29; refine (cM.out _ gp fx' p HPI.out.is).mono ?_; rintro e w3 ⟨sb, mb, tb, mmb, tk, cb, ib, cfp, rfl, HMD⟩)
 have HO3 := Lib.hid (HMD.out.own HPI.out)
 have hb3 := HB2.out.keep HMD.out.mods (by simp)
 clear q0 q1 q2 q3 q4 q5 q6 cM
 have HC3 : Hid (∀ w', Mods [] w3 w' → Blk w' g 44 [.int .i64 (sp : Nat), .int .i64 (lg : Nat), .int .i64 (ca : Nat), .int .i64 fan, .int .i64 buf, .int .i64 leaf, .int .u64 (la : Nat)]) := Lib.hid (fun w' hm => hb3.keep hm (by simp))
 have hgs : g ≠ sb := fun e => by have h1 := (HMD.out.new sb (by simp)).1; have h2 := HB2.out.lt; omega
 have hgs2 : sb ≠ g := fun e => hgs e.symm
 have q0 := hb3.cell (i := 0) rfl
 have q1 := hb3.cell (i := 1) rfl
 have q2 := hb3.cell (i := 2) rfl
 have q3 := hb3.cell (i := 3) rfl
 have q4 := hb3.cell (i := 4) rfl
 have q5 := hb3.cell (i := 5) rfl
 have q6 := hb3.cell (i := 6) rfl
 have HTB : Hid (P'.tab 0 = ⟨B, sp, []⟩) := Lib.hid (HK.out.tab 0 (by decide))
 have cTb := Lib.hid (fun (w' : World) (hm : Mods [] w3 w') => rTable_s ((HPI.out.is.keep0 HMD.out.mods).keep0 hm) (s := 0) (by decide))
 rw [HTB.out] at cTb
 simp only at cTb
 have cBl := Lib.hid (fun (w : World) (A : Option Addr) (k : Nat) => show Calls Tryz.prog 32 #[.agg #[.int .i64 (B : Nat), .int .i64 (sp : Nat), .slice A 0 k]] w fun e w' => e = .returned (.int .i64 (B : Nat)) ∧ Mods [] w w' from tBlocks_any (W := w) ⟨B, sp, []⟩ (.slice A 0 k))
 obtain ⟨f, hf⟩ : ∃ f, 2 + lg = f := ⟨_, rfl⟩
 rw [hf] at cFi cSp HKK
 clear hb3
 go_cut [8] from 30 to 43 (fun ev wx => ∃ (pb : Nat) (sfp : List Nat), ev = .int .i64 0 ∧ Hid (Blk wx sb 85 (stC ⟨sp, lg, ca, ⟨fan, buf, leaf⟩, la⟩ mb tk (.pointer (some ⟨cb, 0, none⟩)) (.pointer (some ⟨pb, 0, none⟩)) (.pointer none) (.pointer none) supZero nilS 0 ib)) ∧ Hid (IsSpace wx pb sfp (Sp.new B f 0 la)) ∧ Hid (∀ k ∈ sfp, w3.heap.size ≤ k) ∧ Hid (Mods [sb] w3 wx))
 case first =>
  go_region_held3 (fun w' => w'.cell? ⟨g, 0, none⟩ = some (.int .i64 (sp : Nat)) ∧ w'.cell? ⟨g, 1, none⟩ = some (.int .i64 (lg : Nat)) ∧ w'.cell? ⟨g, 2, none⟩ = some (.int .i64 (ca : Nat)) ∧ w'.cell? ⟨g, 3, none⟩ = some (.int .i64 fan) ∧ w'.cell? ⟨g, 4, none⟩ = some (.int .i64 buf) ∧ w'.cell? ⟨g, 5, none⟩ = some (.int .i64 leaf) ∧ w'.cell? ⟨g, 6, none⟩ = some (.int .u64 (la : Nat)))
   (first | exact ⟨(HC3.out _ hmc.out).cell (i := 0) rfl, (HC3.out _ hmc.out).cell (i := 1) rfl, (HC3.out _ hmc.out).cell (i := 2) rfl, (HC3.out _ hmc.out).cell (i := 3) rfl, (HC3.out _ hmc.out).cell (i := 4) rfl, (HC3.out _ hmc.out).cell (i := 5) rfl, (HC3.out _ hmc.out).cell (i := 6) rfl⟩ | go_keep | fail)
   (first | (go_at_call 30; refine (cSp.out _).mono ?_; rintro e w7 ⟨pb, sfp, rfl, hm7, hsp, hnw⟩; have hnw3 : Hid (∀ k ∈ sfp, w3.heap.size ≤ k) := Lib.hid (fun k hk => Nat.le_trans hmc.out.size (hnw k hk)); replace hmc := Lib.hid (hmc.out.tr hm7); have hst := (HMD.out.st.keep hmc.out (by simp)); have e10 := hst.cell (i := 10) rfl; have f10 := hst.free 10) | (go_at_call 32; refine (cBl.out _ _ _).mono ?_; rintro e w5 ⟨rfl, hm5⟩; replace hmc := Lib.hid (hmc.out.tr hm5)) | (go_at_call 33; refine (cFi.out _).mono ?_; rintro e w6 ⟨rfl, hm6⟩; replace hmc := Lib.hid (hmc.out.tr hm6.out)) | (go_at_call 31; refine (cTb.out _ (by first | exact (Mods.refl _ _).drew | exact Mods.refl _ _)).mono ?_; rintro e w4 ⟨A, ck, rfl, _, _, hm4⟩; have hmc : Hid (Mods [] w3 w4) := Lib.hid (((Mods.refl _ _).drew).tr hm4.out)) | fail)
  all_goals go_wp2_with fail
  all_goals go_meet
  have hsbl := (HMD.out.new sb (by simp)).2
  have hsn : ∀ k ∈ sfp, k ∉ [sb] := fun k hk hx => by have h1 := hnw3.out k hk; have h2 := List.mem_singleton.1 hx; omega
  have hmS : Mods [sb] w7 (w7.setCell ⟨sb, 10, none⟩ (.pointer (some ⟨pb, 0, none⟩))) := (Mods.refl _ _).setCell (.inl (by simp)) _
  exact ⟨pb, sfp, rfl, Lib.hid (hst.set 10 _), Lib.hid (hsp.keep hmS hsn), hnw3, Lib.hid ((hmc.out.mono (by simp)).trans hmS (fun k hk => .inl hk))⟩
 case rest =>
  obtain ⟨pb, sfp, rfl, HST4, HSP4, HNW4, HM4⟩ := hcut
  have hb4 := (HC3.out w3 (Mods.refl _ _)).keep HM4.out (by simpa using hgs)
  clear q0 q1 q2 q3 q4 q5 q6 cTb cBl cFi cSp
  have q3 := hb4.cell (i := 3) rfl
  have q4 := hb4.cell (i := 4) rfl
  have q5 := hb4.cell (i := 5) rfl
  have cTN := Lib.hid (fun W => trNew_any (W := W) ⟨fan, buf, leaf⟩ sb)
  unfold planV at cTN
  simp only at cTN
  clear hb4
  go_upto_region 11 with (go_at_call 34; refine (cTN.out _).mono ?_; rintro e w5 ⟨tb2, v, rfl, HT5, HV5, HM5, HL5⟩; have hst := HST4.out.keep HM5.out (by simp); have e12 := hst.cell (i := 12) rfl; have f12 := hst.free 12)
  obtain ⟨w6, hw6⟩ : ∃ w6, w5.setCell ⟨sb, 12, none⟩ (.pointer (some ⟨tb2, 0, none⟩)) = w6 := ⟨_, rfl⟩
  have hst6 : Blk w6 sb 85 (stC ⟨sp, lg, ca, ⟨fan, buf, leaf⟩, la⟩ mb tk (.pointer (some ⟨cb, 0, none⟩)) (.pointer (some ⟨pb, 0, none⟩)) (.pointer none) (.pointer (some ⟨tb2, 0, none⟩)) supZero nilS 0 ib) := by rw [← hw6]; exact hst.set 12 _
  have hm6 : Mods [sb] w5 w6 := by rw [← hw6]; exact (Mods.refl _ _).setCell (.inl (by simp)) _
  rw [hw6]
  have hm36 : Mods [sb] w3 w6 := (HM4.out.trans HM5.out (by simp)).trans hm6 (fun k hk => .inl hk)
  have hsb3 := HMD.out.new sb (by simp)
  have htk3 := HMD.out.new tk (by simp)
  have hib3 := HMD.out.new ib (by simp)
  have hl5 := HL5.out
  have hs34 := HM4.out.size
  have hvl := HV5.out.lt
  have htl := HT5.out.lt
  have hs56 := hm6.size
  have hs45 := HM5.out.size
  have hWw3 := HPI.out.mods.size
  have h6 := HMD.out.nd.1
  have hcn := HMD.out.nd.2
  simp only [List.nodup_cons, List.mem_cons, List.not_mem_nil, or_false, not_or, not_false_eq_true, List.nodup_nil, and_true] at h6
  have hcc : ∀ g ∈ cfp, (w2.heap.size ≤ g ∧ g < w3.heap.size) ∧ g ≠ sb ∧ g ≠ tk ∧ g ≠ ib := fun g hg => by
   have h1 := HMD.out.new g (by simp [hg])
   have h2 := hcn g hg
   simp only [List.mem_cons, List.not_mem_nil, or_false, not_or] at h2
   exact ⟨h1, h2.2.2.2.1, h2.2.2.2.2.1, h2.2.2.2.2.2⟩
  have hspl : ∀ g ∈ sfp, w3.heap.size ≤ g ∧ g < wc.heap.size := fun g hg => ⟨HNW4.out g hg, HSP4.out.lt g hg⟩
  have hI : StIn W w6 ([tb2, v] ++ sfp ++ ([sb, tk, ib] ++ cfp ++ F)) x (StA.zero ⟨sp, lg, ca, ⟨fan, buf, leaf⟩, la⟩ sb mb p tk cb ib pb tb2 v cfp sfp (Sp.new B f 0 la)) ⟨P', [], 0⟩ := by
   refine ⟨HO3.out.mix hm36 (fun k hk => ⟨by rw [List.mem_singleton.1 hk]; simp, by rw [List.mem_singleton.1 hk]; omega⟩) (fun g hg => ?_), hst6, HMD.out.tks.keep hm36 (by simp; omega), HMD.out.cache.keep hm36 (fun k hk hx => (hcc k hk).2.1 (List.mem_singleton.1 hx)), (HSP4.out.keep HM5.out (by simp)).keep hm6 (fun k hk hx => by have h1 := hspl k hk; have h2 := List.mem_singleton.1 hx; omega), HMD.out.imgs.keep hm36 (by simp; omega), HT5.out.keep hm6 (by simp; omega), HV5.out.keep hm6 (by simp; omega), fun g hg => ?_, ?_, fun g hg => ?_, fun g hg hx => ?_⟩
   ·rcases List.mem_append.1 hg with hg | hg
    ·refine .inr ?_
     rcases List.mem_append.1 hg with hg | hg
     ·simp only [List.mem_cons, List.not_mem_nil, or_false] at hg
      rcases hg with rfl | rfl <;> omega
     ·have := hspl g hg; omega
    ·exact .inl hg
   ·simp only [StA.all, StA.five, StA.zero, List.mem_append, List.mem_cons, List.not_mem_nil, or_false] at hg
    rcases hg with (rfl | rfl | rfl | rfl | rfl) | hg | hg
    ·exact ⟨by simp, by omega⟩
    ·exact ⟨by simp, by omega⟩
    ·exact ⟨by simp, by omega⟩
    ·exact ⟨by simp, by omega⟩
    ·exact ⟨by simp, by omega⟩
    ·exact ⟨by simp [hg], by have := hcc g hg; omega⟩
    ·exact ⟨by simp [hg], by have := hspl g hg; omega⟩
   ·show [sb, tk, ib, tb2, v].Nodup
    simp only [List.nodup_cons, List.mem_cons, List.not_mem_nil, or_false, not_or, not_false_eq_true, List.nodup_nil, and_true]
    omega
   ·show g ∉ [sb, tk, ib, tb2, v]
    simp only [List.mem_cons, List.not_mem_nil, or_false, not_or]
    rcases List.mem_append.1 hg with hg | hg
    ·have := hcc g hg; omega
    ·have := hspl g hg; omega
   ·have h1 := hcc g hg; have h2 := hspl g hx; omega
  have hz0 : 128 ≤ z := HSZ.out.2.2.1
  have hz1 : z ≤ 1024 := HSZ.out.2.2.2
  have hw0 := WS.fresh HK.out
  have hil : (lfImg z k 1 []).size = z := by unfold lfImg; rw [bA_size]; exact sealL_len _ (by simp; omega)
  obtain ⟨_, hw1, hr1, hbl1⟩ := hw0.write HKK.out.2 hil
  obtain ⟨M1, hM1⟩ : ∃ M1, ((⟨P', [], 0⟩ : Mi).write k (lfImg z k 1 [])).2 = M1 := ⟨_, rfl⟩
  rw [hM1] at hw1 hr1 hbl1
  obtain ⟨_, hw2, hr2, hbl2⟩ := hw1.flush
  obtain ⟨M2, hM2⟩ : ∃ M2, M1.flush.2 = M2 := ⟨_, rfl⟩
  rw [hM2] at hw2 hr2 hbl2
  have hB4 := HC.out.blocks
  have hok : SupE.Ok ⟨1, lfPtr z k 1 [], 1, 1, 0⟩ := ⟨⟨Int.natCast_nonneg k, by have := HKK.out.2; show (k : Int) ≤ 2147483647; omega, by show 1 < 18446744073709551616; decide, crcOn_lt' _ _⟩, by show 1 < 18446744073709551616; decide, rfl, by show 1 < 18446744073709551616; decide, by show 0 < 4294967296; decide⟩
  have hroom := HC.out.room
  have cK := Lib.hid (show Calls Tryz.prog 36 #[.pointer (some ⟨sb, 0, none⟩), .int .u64 1, .int .u32 0] w6 fun e w' => e = .returned (.int .i64 0) ∧ Hid (CkPost B z sp W w6 w' ([tb2, v] ++ sfp ++ ([sb, tk, ib] ++ cfp ++ F)) x (StA.zero ⟨sp, lg, ca, ⟨fan, buf, leaf⟩, la⟩ sb mb p tk cb ib pb tb2 v cfp sfp (Sp.new B f 0 la)) M2 (updR (fun _ => bA (zerosL z)) k (lfImg z k 1 [])) 1 1 0 (lfPtr z k 1 []) (Sp.new B f 0 la).step.takeS) from
   stCheck1_any (gen := 1) (seq := 1) (chain := 0) hI HTT.out (by have h1 := HC.out.last.1; show ¬ la ≤ 0; simp only at h1; omega) rfl (fun w1 h1 => stCommit_leaf h1 hw0 (by decide) hz0 hz1 HTT.out HKK.out.1 HKK.out.2 hB4 (by decide) ⟨rfl, rfl⟩ hM1 hM2) hw2 (by decide) hz0 hz1 (by simp only at hroom; omega) hok)
  have HR := Lib.hid (show M2.reps = 0 ∧ M2.bl = [] from ⟨hr2.trans hr1, hbl2.trans (hbl1 rfl)⟩)
  have hsbF : sb ∉ F := fun hx => by have := HPI.out.lt sb hx; omega
  have hm06 : Minds F w w6 := ((Minds.of HM1.out).trans ⟨fx 0 ++ fx 1, HM2.out, fun k hk => (List.mem_append.1 hk).elim (fun h => (HX.out 0 (by decide) k h).2) (fun h => (HX.out 1 (by decide) k h).2)⟩).trans ((Minds.of HMD.out.mods).trans ⟨[sb], hm36, fun k hk => by rw [List.mem_singleton.1 hk]; exact hsbF⟩)
  have HM06 := Lib.hid hm06
  have HSF : Hid (∀ k ∈ sb :: sfp, k ∉ F) := Lib.hid (fun k hk => by
   rcases List.mem_cons.1 hk with rfl | hk
   ·exact hsbF
   ·exact fun hx => by have h1 := HPI.out.lt k hx; have h2 := hspl k hk; omega)
  clear hz0 hz1 hw0 hil hw1 hr1 hbl1 hw2 hr2 hbl2 hM1 hM2 hB4 hok hroom hsbF hm06 hI hspl hcc h6 hcn hm36 hst6 hm6 hst e12 f12 hw6 hsb3 htk3 hib3 hl5 hs34 hvl htl hs56 hs45 hWw3 q3 q4 q5
  go_wp2_with (go_at_call 36; refine cK.out.mono ?_; rintro e w7 ⟨rfl, HCK⟩)
  go_ret
  obtain ⟨M3, F', fp1, tb3, v3, ib3, g1, g2, g3, ⟨L, g4, g5⟩, g6, _⟩ := HCK.out
  refine ⟨rfl, Lib.hid ⟨F', _, M3, g1, fun k hk => g6 k (List.mem_append_right _ (List.mem_append_right _ hk)), HM06.out.trans ⟨L, g4, fun k hk hx => ?_⟩, g3.1.trans HR.out.1, g3.2 HR.out.2, g2⟩⟩
  rcases g5 k hk with h | h
  ·exact HSF.out k h hx
  ·exact h (List.mem_append_right _ (List.mem_append_right _ hx))
end
end Go.Proofs.YtkjpdfomppjiiaaGreatDoor
