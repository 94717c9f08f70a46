/- MirrorWhole, plainly: what Whole and Check tell of a block of which either copy may be garbled. -/
import Derived.Test.YtnpfhfgegjocoaaGreatMI
import Derived.Deep.RegionHeld3
import Derived.Deep.CutRange
import Derived.Deep.RegionWith
/- The mirror: Whole, of a block that both sides' sectors read. -/
namespace Go.Proofs.YtnpfhfgegjocoaaGreat
open Go.RowKit

section
variable {W w w1 : World} {b p tb mb : Nat} {gp : List Nat} {x : Nat → Nat} {fx : Nat → List Nat} {M : Mi} {B z c : Nat} {g ob rb : Nat} {l : List Value} {v0 v1 : Bool}
/-- While Whole runs. -/
structure WhIn (W w : World) (b p tb mb : Nat) (gp : List Nat) (x : Nat → Nat) (fx : Nat → List Nat) (M : Mi) (g ob rb : Nat) (l : List Value) (v0 v1 : Bool) : Prop where
  win : WIn w b p tb mb gp x fx M g l
  to_ : MTo W w b p tb mb gp gp x fx fx M
  out : Blk w ob 73 [.bool v0, .bool v1]
  res : Blk w rb 73 [.bool false, .bool false]
  no : ob ∉ b :: mb :: p :: (fx 0 ++ fx 1) ∧ rb ∉ b :: mb :: p :: (fx 0 ++ fx 1)
  offo : ob ≠ tb ∧ ob ∉ gp
  newo : W.heap.size ≤ ob
  offr : rb ≠ tb ∧ rb ∉ gp
  newr : W.heap.size ≤ rb
  ne : g ≠ ob ∧ g ≠ rb ∧ ob ≠ rb
theorem WhIn.keep (h : WhIn W w b p tb mb gp x fx M g ob rb l v0 v1) (hm : Mods [] w w1) : WhIn W w1 b p tb mb gp x fx M g ob rb l v0 v1 :=
  ⟨h.win.keep hm, h.to_.tr hm, h.out.keep hm (by simp), h.res.keep hm (by simp), h.no, h.offo, h.newo, h.offr, h.newr, h.ne⟩
theorem WhIn.next (h : WhIn W w b p tb mb gp x fx M g ob rb l v0 v1) (hw : WIn w1 b p tb mb gp x fx M g l) (hm : MTo w w1 b p tb mb gp gp x fx fx M) : WhIn W w1 b p tb mb gp x fx M g ob rb l v0 v1 :=
  ⟨hw, h.to_.trans hm, h.out.keep hm.mods h.no.1, h.res.keep hm.mods h.no.2, h.no, h.offo, h.newo, h.offr, h.newr, h.ne⟩
theorem WhIn.set (h : WhIn W w b p tb mb gp x fx M g ob rb l v0 v1) (s : Nat) (v : Bool) {u0 u1 : Bool} (hu : [Value.bool u0, Value.bool u1] = [Value.bool v0, Value.bool v1].set s (.bool v)) :
    WhIn W (w.setCell ⟨ob, s, none⟩ (.bool v)) b p tb mb gp x fx M g ob rb l u0 u1 := by
  have hm : Mods [ob] w (w.setCell ⟨ob, s, none⟩ (.bool v)) := (Mods.refl _ _).setCell (by simp) _
  have hf : ∀ k, k ∈ b :: mb :: p :: (fx 0 ++ fx 1) → k ∉ [ob] := fun k hk hx => h.no.1 (by rw [← List.mem_singleton.1 hx]; exact hk)
  have hI : IsM (w.setCell ⟨ob, s, none⟩ (.bool v)) b p tb mb gp x fx M := by
    refine h.win.is.keep hm ⟨hf _ (by simp), fun hx => h.offo.1 (List.mem_singleton.1 hx).symm, hf _ (by simp)⟩ (fun k hk hx => h.offo.2 (by rw [← List.mem_singleton.1 hx]; exact hk)) (fun k hk y hy => hf _ ?_)
    rcases two_cases hk with rfl | rfl
    · simp [hy]
    · simp [hy]
  refine ⟨⟨hI, h.win.box.setOther h.ne.1 _, h.win.free⟩, ⟨hI, h.to_.mods.trans hm (fun k hk => .inr (by rw [List.mem_singleton.1 hk]; exact h.newo)), h.to_.newF, h.to_.newG⟩, ?_, h.res.setOther (Ne.symm h.ne.2.2) _, h.no, h.offo, h.newo, h.offr, h.newr, h.ne⟩
  rw [hu]
  exact h.out.set s (.bool v)
/-- A cell's bool, as a function of the world. -/
def ghB (a : Addr) (w : World) : Bool := match w.cell? a with | some (.bool v) => v | _ => false
theorem ghB_at {a : Addr} {w : World} {v : Bool} (h : w.cell? a = some (.bool v)) : w.cell? a = some (.bool (ghB a w)) := by
  unfold ghB; rw [h]
theorem ghB_set {a : Addr} {w : World} {u : Value} (h : w.cell? a = some u) (v : Bool) : (w.setCell a (.bool v)).cell? a = some (.bool (ghB a (w.setCell a (.bool v)))) :=
  ghB_at (World.cell?_setCell_same _ _ _ h)
theorem load_b2 {w : World} {g : Nat} {u v : Bool} (h : Blk w g 73 [.bool u, .bool v]) : (loadVar 73 ⟨g, 0, none⟩).run Tryz.prog w = .ok (.agg #[.bool u, .bool v]) w := by
  have c0 := h.cell (i := 0) rfl
  have c1 := h.cell (i := 1) rfl
  go_simp
set_option maxRecDepth 100000 in
set_option maxHeartbeats 6400000 in
theorem mWhl_m (h : IsM W b p tb mb gp x fx M) (hF : Fine B z c M.P) (hc : c ≤ 800000) (q : PtrE) {i : Nat} (hi : i < B) (hq : q.addr = (i : Int)) (hok : ∀ s, s < 2 → (M.P.read s (i : Int)).2 = 0) :
    Calls Tryz.prog 37 #[.pointer (some ⟨b, 0, none⟩), ptrV q] W fun e w' => e = .returned (.tuple #[.agg #[.bool (M.has q 0 i), .bool (M.has q 1 i)], .int .i64 0]) ∧ Hid (MTo W w' b p tb mb gp gp x fx fx M) := by
  have cM := Lib.hid (fun (w : World) (I : ByteArray) (h1 : IsM w b p tb mb gp x fx M) => eMeets_any h1.sum q I)
  have cC := Lib.hid (fun (w : World) (h1 : IsM w b p tb mb gp x fx M) => mCheck_m h1 hF (i : Int))
  rw [if_pos (by omega)] at cC
  have cR := Lib.hid (fun (w : World) (g : Nat) (h1 : WIn w b p tb mb gp x fx M g [.int .i64 (i : Nat), .int .u64 (q.gen : Nat), .int .u32 (q.sum : Nat)]) (s : Nat) (hs : s < 2) => h1.read hF hc hs (i : Int))
  unfold ptrV at cM ⊢
  rw [hq] at cM ⊢
  have HR0 := Lib.hid hok
  have HI := Lib.hid h
  obtain ⟨gn, hgn⟩ : ∃ gn, q.gen = gn := ⟨_, rfl⟩
  obtain ⟨sm, hsm⟩ : ∃ sm, q.sum = sm := ⟨_, rfl⟩
  rw [hgn, hsm] at cM cR ⊢
  clear h hF hq hok hgn hsm
  go_enter Tryz.func37, Tryz.ntmps37
  go_wp2_with fail
  obtain ⟨w1, hw1⟩ : ∃ w1, (((W.alloc (.cells #[.int .i64 (i : Nat), .int .u64 (gn : Nat), .int .u32 (sm : Nat)] 58)).alloc (.cells #[.bool false, .bool false] 73)).alloc (.cells #[.bool false, .bool false] 73)) = w1 := ⟨_, rfl⟩
  obtain ⟨g, hg⟩ : ∃ g, W.heap.size = g := ⟨_, rfl⟩
  rw [hw1, hg]
  have H1 : Hid (WhIn W w1 b p tb mb gp x fx M g (g + 1 + 1) (g + 1) [.int .i64 (i : Nat), .int .u64 (gn : Nat), .int .u32 (sm : Nat)] false false) := by
    have hm0 : Mods [] W (W.alloc (.cells #[.int .i64 (i : Nat), .int .u64 (gn : Nat), .int .u32 (sm : Nat)] 58)) := (Mods.refl _ _).alloc _
    have hm1 : Mods [] W w1 := by rw [← hw1]; exact ((((Mods.refl _ _).alloc _).alloc _).alloc _)
    have hft := HI.out.foot
    have hgp : ∀ k ∈ gp, k < W.heap.size := fun k hk => HI.out.pair.pb.lt k hk
    have hl := HI.out.lt
    have s1 : (W.alloc (.cells #[.int .i64 (i : Nat), .int .u64 (gn : Nat), .int .u32 (sm : Nat)] 58)).heap.size = g + 1 := by rw [← hg]; exact Array.size_push _
    have s2 : ((W.alloc (.cells #[.int .i64 (i : Nat), .int .u64 (gn : Nat), .int .u32 (sm : Nat)] 58)).alloc (.cells #[.bool false, .bool false] 73)).heap.size = g + 1 + 1 := by rw [← s1]; exact Array.size_push _
    have b0 := Blk.new W 58 [.int .i64 (i : Nat), .int .u64 (gn : Nat), .int .u32 (sm : Nat)]
    have b1 := Blk.new (W.alloc (.cells #[.int .i64 (i : Nat), .int .u64 (gn : Nat), .int .u32 (sm : Nat)] 58)) 73 [.bool false, .bool false]
    have b2 := Blk.new ((W.alloc (.cells #[.int .i64 (i : Nat), .int .u64 (gn : Nat), .int .u32 (sm : Nat)] 58)).alloc (.cells #[.bool false, .bool false] 73)) 73 [.bool false, .bool false]
    rw [s1] at b1
    rw [s2] at b2
    rw [hg] at b0
    refine Lib.hid ⟨⟨HI.out.still hm1, ?_, fun hx => ?_⟩, MTo.still HI.out hm1, ?_, ?_, ⟨fun hx => ?_, fun hx => ?_⟩, ⟨?_, fun hx => ?_⟩, ?_, ⟨?_, fun hx => ?_⟩, ?_, ⟨?_, ?_, ?_⟩⟩
    · rw [← hw1]; exact (b0.alloc _).alloc _
    · have := hft _ hx; omega
    · rw [← hw1]; exact b2
    · rw [← hw1]; exact b1.alloc _
    · have := hft _ hx; omega
    · have := hft _ hx; omega
    · omega
    · have := hgp _ hx; omega
    · omega
    · omega
    · have := hgp _ hx; omega
    all_goals omega
  obtain ⟨rb, hrb⟩ : ∃ rb, g + 1 = rb := ⟨_, rfl⟩
  obtain ⟨ob, hob⟩ : ∃ ob, rb + 1 = ob := ⟨_, rfl⟩
  rw [hrb, hob] at H1
  rw [hrb, hob]
  clear hw1 hg hrb hob HI
  refine (cC.out _ H1.out.win.is).mono ?_
  rintro e w2 ⟨rfl, HM2⟩
  have H2 := Lib.hid (H1.out.keep HM2.out)
  clear H1 HM2 cC
  go_wp2_with fail
  go_loopw [19] (fun iv wr => ∃ (s : Nat) (v0 v1 : Bool), s ≤ 2 ∧ iv = .int .i64 (s : Nat) ∧ WhIn W wr b p tb mb gp x fx M g ob rb [.int .i64 (i : Nat), .int .u64 (gn : Nat), .int .u32 (sm : Nat)] v0 v1 ∧ (0 < s → v0 = M.has q 0 i) ∧ (1 < s → v1 = M.has q 1 i)) (fun iv _ => 2 - (intOf iv).toNat)
  case atStart => exact ⟨0, false, false, by omega, rfl, H2.out, fun h => by omega, fun h => by omega⟩
  case round =>
    clear H2
    obtain ⟨s, v0, v1, hs, rfl, hW, e0, e1⟩ := hrel
    have HW := Lib.hid hW
    have y0 := hW.win.q0
    have y1 := hW.win.box.cell (i := 0) rfl
    have HE := Lib.hid (And.intro e0 e1)
    clear hW e0 e1
    by_cases hlt : s < 2
    · rcases two_cases hlt with rfl | rfl
      · have cRs := Lib.hid (fun (w : World) (h1 : WIn w b p tb mb gp x fx M g [.int .i64 (i : Nat), .int .u64 (gn : Nat), .int .u32 (sm : Nat)]) => cR.out w g h1 0 hlt)
        have hrd := HR0.out 0 hlt
        have hhas : M.has q 0 i = (decide ((M.P.read 0 (i : Int)).2 = 0) && meetsL q (M.P.read 0 (i : Int)).1.toList) := rfl
        generalize M.P.read 0 (i : Int) = r at *
        obtain ⟨I, k⟩ := r
        simp only at cRs hrd hhas
        subst hrd
        go_wp2_with fail
        go_region_held3 (fun w' => w'.cell? ⟨b, 0, none⟩ = some (.pointer (some ⟨p, 0, none⟩)) ∧ w'.cell? ⟨g, 0, none⟩ = some (.int .i64 (i : Nat)))
          (first | go_keep | exact HC.out | fail)
          ((go_at_call 22; refine (cRs.out _ (HW.out.win.keep ((Mods.refl _ _).drew))).mono ?_; rintro e w2 ⟨rfl, HW2, HT2⟩; have HC := Lib.hid (And.intro HW2.out.q0 (HW2.out.box.cell (i := 0) rfl))))
        have HW3 := Lib.hid ((HW.out.keep ((Mods.refl _ _).drew)).next HW2.out HT2.out)
        clear HW2 HT2 HW HC y0 y1
        have y2 := HW3.out.win.q1
        have y3 := HW3.out.win.box.cell (i := 0) rfl
        have y4 := HW3.out.win.box.cell (i := 1) rfl
        have y5 := HW3.out.win.box.cell (i := 2) rfl
        have n1 : ¬ g = ob := HW3.out.ne.1
        have n2 : ¬ ob = g := fun e => n1 e.symm
        have n3 : ¬ ob = b := fun e => HW3.out.no.1 (by rw [e]; simp)
        have n4 : ¬ b = ob := fun e => n3 e.symm
        have fz := HW3.out.out.free 0
        have cz := HW3.out.out.cell (i := 0) rfl
        have cMs := Lib.hid (fun (w : World) (hm : Mods [] w2 w) => cM.out w I (HW3.out.win.is.still hm))
        have HMH := Lib.hid hhas
        clear hhas
        generalize meetsL q I.toList = me at *
        have hg1 : ∀ w : World, ghB ⟨ob, 0, none⟩ w.drew = ghB ⟨ob, 0, none⟩ w := fun _ => rfl
        have hg2 : ∀ (w : World) (u : Value) (v : Bool), w.cell? ⟨ob, 0, none⟩ = some u → (w.setCell ⟨ob, 0, none⟩ (.bool v)).cell? ⟨ob, 0, none⟩ = some (.bool (ghB ⟨ob, 0, none⟩ (w.setCell ⟨ob, 0, none⟩ (.bool v)))) := fun w u v h => ghB_set h v
        have cz2 := ghB_at cz
        clear cz
        go_wp2_with fail
        go_region_held3 (fun w' => w'.cell? ⟨b, 1, none⟩ = some (.pointer (some ⟨tb, 0, none⟩)) ∧ w'.cell? ⟨g, 0, none⟩ = some (.int .i64 (i : Nat)) ∧ w'.cell? ⟨g, 1, none⟩ = some (.int .u64 (gn : Nat)) ∧ w'.cell? ⟨g, 2, none⟩ = some (.int .u32 (sm : Nat)) ∧ w'.frozen? ⟨ob, 0, none⟩ = false ∧ w'.cell? ⟨ob, 0, none⟩ = some (.bool (ghB ⟨ob, 0, none⟩ w')))
          (first | go_keep | exact HD.out | exact ⟨by go_keep, by go_keep, by go_keep, by go_keep, by go_keep, hg2 _ _ _ HD.out.2.2.2.2.2⟩ | fail)
          ((go_at_call 36; refine (cMs.out _ ((Mods.refl _ _).drew)).mono ?_; rintro e w3 ⟨rfl, hm3⟩; have HM3 := Lib.hid (((Mods.refl [] w2).drew).trans hm3 (by simp)); have HW4 := Lib.hid (HW3.out.keep HM3.out); have HD := Lib.hid (And.intro HW4.out.win.q1 (And.intro (HW4.out.win.box.cell (i := 0) rfl) (And.intro (HW4.out.win.box.cell (i := 1) rfl) (And.intro (HW4.out.win.box.cell (i := 2) rfl) (And.intro (HW4.out.out.free 0) (ghB_at (HW4.out.out.cell (i := 0) rfl)))))))))
        clear hg1 hg2
        go_wp2_with fail
        go_roundw
        case rel => exact ⟨1, me, v1, by omega, by go_num, HW4.out.set 0 me rfl, fun _ => by rw [HMH.out]; rfl, fun h => by omega⟩
        case measure => simp [intOf]
      · have cRs := Lib.hid (fun (w : World) (h1 : WIn w b p tb mb gp x fx M g [.int .i64 (i : Nat), .int .u64 (gn : Nat), .int .u32 (sm : Nat)]) => cR.out w g h1 1 hlt)
        have hrd := HR0.out 1 hlt
        have hhas : M.has q 1 i = (decide ((M.P.read 1 (i : Int)).2 = 0) && meetsL q (M.P.read 1 (i : Int)).1.toList) := rfl
        generalize M.P.read 1 (i : Int) = r at *
        obtain ⟨I, k⟩ := r
        simp only at cRs hrd hhas
        subst hrd
        go_wp2_with fail
        go_region_held3 (fun w' => w'.cell? ⟨b, 0, none⟩ = some (.pointer (some ⟨p, 0, none⟩)) ∧ w'.cell? ⟨g, 0, none⟩ = some (.int .i64 (i : Nat)))
          (first | go_keep | exact HC.out | fail)
          ((go_at_call 22; refine (cRs.out _ (HW.out.win.keep ((Mods.refl _ _).drew))).mono ?_; rintro e w2 ⟨rfl, HW2, HT2⟩; have HC := Lib.hid (And.intro HW2.out.q0 (HW2.out.box.cell (i := 0) rfl))))
        have HW3 := Lib.hid ((HW.out.keep ((Mods.refl _ _).drew)).next HW2.out HT2.out)
        clear HW2 HT2 HW HC y0 y1
        have y2 := HW3.out.win.q1
        have y3 := HW3.out.win.box.cell (i := 0) rfl
        have y4 := HW3.out.win.box.cell (i := 1) rfl
        have y5 := HW3.out.win.box.cell (i := 2) rfl
        have n1 : ¬ g = ob := HW3.out.ne.1
        have n2 : ¬ ob = g := fun e => n1 e.symm
        have n3 : ¬ ob = b := fun e => HW3.out.no.1 (by rw [e]; simp)
        have n4 : ¬ b = ob := fun e => n3 e.symm
        have fz := HW3.out.out.free 1
        have cz := HW3.out.out.cell (i := 1) rfl
        have cMs := Lib.hid (fun (w : World) (hm : Mods [] w2 w) => cM.out w I (HW3.out.win.is.still hm))
        have HMH := Lib.hid hhas
        clear hhas
        generalize meetsL q I.toList = me at *
        have hg1 : ∀ w : World, ghB ⟨ob, 1, none⟩ w.drew = ghB ⟨ob, 1, none⟩ w := fun _ => rfl
        have hg2 : ∀ (w : World) (u : Value) (v : Bool), w.cell? ⟨ob, 1, none⟩ = some u → (w.setCell ⟨ob, 1, none⟩ (.bool v)).cell? ⟨ob, 1, none⟩ = some (.bool (ghB ⟨ob, 1, none⟩ (w.setCell ⟨ob, 1, none⟩ (.bool v)))) := fun w u v h => ghB_set h v
        have cz2 := ghB_at cz
        clear cz
        go_wp2_with fail
        go_region_held3 (fun w' => w'.cell? ⟨b, 1, none⟩ = some (.pointer (some ⟨tb, 0, none⟩)) ∧ w'.cell? ⟨g, 0, none⟩ = some (.int .i64 (i : Nat)) ∧ w'.cell? ⟨g, 1, none⟩ = some (.int .u64 (gn : Nat)) ∧ w'.cell? ⟨g, 2, none⟩ = some (.int .u32 (sm : Nat)) ∧ w'.frozen? ⟨ob, 1, none⟩ = false ∧ w'.cell? ⟨ob, 1, none⟩ = some (.bool (ghB ⟨ob, 1, none⟩ w')))
          (first | go_keep | exact HD.out | exact ⟨by go_keep, by go_keep, by go_keep, by go_keep, by go_keep, hg2 _ _ _ HD.out.2.2.2.2.2⟩ | fail)
          ((go_at_call 36; refine (cMs.out _ ((Mods.refl _ _).drew)).mono ?_; rintro e w3 ⟨rfl, hm3⟩; have HM3 := Lib.hid (((Mods.refl [] w2).drew).trans hm3 (by simp)); have HW4 := Lib.hid (HW3.out.keep HM3.out); have HD := Lib.hid (And.intro HW4.out.win.q1 (And.intro (HW4.out.win.box.cell (i := 0) rfl) (And.intro (HW4.out.win.box.cell (i := 1) rfl) (And.intro (HW4.out.win.box.cell (i := 2) rfl) (And.intro (HW4.out.out.free 1) (ghB_at (HW4.out.out.cell (i := 1) rfl)))))))))
        clear hg1 hg2
        go_wp2_with fail
        go_roundw
        case rel => exact ⟨2, v0, me, by omega, by go_num, HW4.out.set 1 me rfl, fun _ => HE.out.1 (by decide), fun _ => by rw [HMH.out]; rfl⟩
        case measure => simp [intOf]
    · obtain rfl : s = 2 := by omega
      have z0 := HW.out.out.cell (i := 0) rfl
      have z1 := HW.out.out.cell (i := 1) rfl
      have r0 := HW.out.res.cell (i := 0) rfl
      have r1 := HW.out.res.cell (i := 1) rfl
      have n1 : ¬ ob = rb := HW.out.ne.2.2
      have f0 := HW.out.res.free 0
      have f1 := HW.out.res.free 1
      have HT : Hid (MTo W ((wr.setCell ⟨rb, 0, none⟩ (.bool v0)).setCell ⟨rb, 1, none⟩ (.bool v1)) b p tb mb gp gp x fx fx M ∧ Blk ((wr.setCell ⟨rb, 0, none⟩ (.bool v0)).setCell ⟨rb, 1, none⟩ (.bool v1)) rb 73 [.bool v0, .bool v1]) := by
        have hm : Mods [rb] wr ((wr.setCell ⟨rb, 0, none⟩ (.bool v0)).setCell ⟨rb, 1, none⟩ (.bool v1)) := ((Mods.refl _ _).setCell (by simp) _).setCell (by simp) _
        have hf : ∀ k, k ∈ b :: mb :: p :: (fx 0 ++ fx 1) → k ∉ [rb] := fun k hk hx => HW.out.no.2 (by rw [← List.mem_singleton.1 hx]; exact hk)
        refine Lib.hid ⟨⟨HW.out.win.is.keep hm ⟨hf _ (by simp), fun hx => HW.out.offr.1 (List.mem_singleton.1 hx).symm, hf _ (by simp)⟩ (fun k hk hx => HW.out.offr.2 (by rw [← List.mem_singleton.1 hx]; exact hk)) (fun k hk y hy => hf _ ?_), HW.out.to_.mods.trans hm (fun k hk => .inr (by rw [List.mem_singleton.1 hk]; exact HW.out.newr)), HW.out.to_.newF, HW.out.to_.newG⟩, (HW.out.res.set 0 _).set 1 _⟩
        rcases two_cases hk with rfl | rfl
        · simp [hy]
        · simp [hy]
      go_wp2_with fail
      refine bodyPost_ret (results_ct rfl rfl (load_b2 HT.out.2)) rfl ?_
      rw [HE.out.1 (by decide), HE.out.2 (by decide)] at HT ⊢
      exact ⟨rfl, Lib.hid HT.out.1⟩
theorem oWhl {F : List Nat} (h : OwnM W F w b p x M) (hF : Fine B z c M.P) (hc : c ≤ 800000) (q : PtrE) {i : Nat} (hi : i < B) (hq : q.addr = (i : Int)) (hok : ∀ s, s < 2 → (M.P.read s (i : Int)).2 = 0) :
    Calls Tryz.prog 37 #[.pointer (some ⟨b, 0, none⟩), ptrV q] w fun e w' => e = .returned (.tuple #[.agg #[.bool (M.has q 0 i), .bool (M.has q 1 i)], .int .i64 0]) ∧ Hid (OwnM W F w' b p x M) ∧ Hid (Minds F w w') := by
  obtain ⟨tb, mb, gp, fx, hI, hf⟩ := h.ex
  exact (mWhl_m hI hF hc q hi hq hok).mono fun e w' ⟨h1, h2⟩ => ⟨h1, h.turn hI hf h2.out⟩
/-- There is no such block, or no mirror. -/
theorem mWhl_err {W : World} {P : Option Addr} {k : Nat} (hk : k ≠ 0) (q : PtrE) (cC : Hid (∀ w, Mods [] W w → Calls Tryz.prog 89 #[.pointer P, .int .i64 q.addr] w fun e w' => e = .returned (.int .i64 (k : Nat)) ∧ Hid (Mods [] w w'))) :
    Calls Tryz.prog 37 #[.pointer P, ptrV q] W fun e w' => e = .returned (.tuple #[.agg #[.bool false, .bool false], .int .i64 (k : Nat)]) ∧ Hid (Mods [] W w') := by
  have hk2 : ¬ (k : Int) = 0 := by omega
  unfold ptrV
  generalize q.addr = a at *
  go_enter Tryz.func37, Tryz.ntmps37
  go_wp2_with fail
  obtain ⟨w1, hw1⟩ : ∃ w1, (((W.alloc (.cells #[.int .i64 a, .int .u64 (q.gen : Nat), .int .u32 (q.sum : Nat)] 58)).alloc (.cells #[.bool false, .bool false] 73)).alloc (.cells #[.bool false, .bool false] 73)) = w1 := ⟨_, rfl⟩
  have s1 : (W.alloc (.cells #[.int .i64 a, .int .u64 (q.gen : Nat), .int .u32 (q.sum : Nat)] 58)).heap.size = W.heap.size + 1 := Array.size_push _
  have s2 : ((W.alloc (.cells #[.int .i64 a, .int .u64 (q.gen : Nat), .int .u32 (q.sum : Nat)] 58)).alloc (.cells #[.bool false, .bool false] 73)).heap.size = W.heap.size + 1 + 1 := by rw [← s1]; exact Array.size_push _
  have b1 := Blk.new (W.alloc (.cells #[.int .i64 a, .int .u64 (q.gen : Nat), .int .u32 (q.sum : Nat)] 58)) 73 [.bool false, .bool false]
  have b2 := Blk.new ((W.alloc (.cells #[.int .i64 a, .int .u64 (q.gen : Nat), .int .u32 (q.sum : Nat)] 58)).alloc (.cells #[.bool false, .bool false] 73)) 73 [.bool false, .bool false]
  rw [s1] at b1
  rw [s2] at b2
  have H1 : Hid (Mods [] W w1 ∧ Blk w1 (W.heap.size + 1) 73 [.bool false, .bool false] ∧ Blk w1 (W.heap.size + 1 + 1) 73 [.bool false, .bool false] ∧ W.heap.size + 1 + 1 < w1.heap.size) := by
    rw [← hw1]
    exact Lib.hid ⟨(((Mods.refl _ _).alloc _).alloc _).alloc _, b1.alloc _, b2, b2.lt⟩
  obtain ⟨rb, hrb⟩ : ∃ rb, W.heap.size + 1 = rb := ⟨_, rfl⟩
  obtain ⟨ob, hob⟩ : ∃ ob, rb + 1 = ob := ⟨_, rfl⟩
  have HN : Hid (W.heap.size ≤ rb ∧ W.heap.size ≤ ob ∧ ¬ ob = rb) := Lib.hid (by omega)
  rw [hrb, hob] at H1
  rw [hw1, hrb, hob]
  clear hw1 hrb hob s1 s2 b1 b2
  refine (cC.out _ H1.out.1).mono ?_
  rintro e w2 ⟨rfl, HM2⟩
  have H2 := Lib.hid (And.intro (H1.out.2.1.keep HM2.out (by simp)) (And.intro (H1.out.2.2.1.keep HM2.out (by simp)) (H1.out.1.trans HM2.out (by simp))))
  clear H1 HM2 cC
  have z0 := H2.out.2.1.cell (i := 0) rfl
  have z1 := H2.out.2.1.cell (i := 1) rfl
  have r0 := H2.out.1.cell (i := 0) rfl
  have r1 := H2.out.1.cell (i := 1) rfl
  have n1 := HN.out.2.2
  have f0 := H2.out.1.free 0
  have f1 := H2.out.1.free 1
  go_wp2_with fail
  refine bodyPost_ret (results_ct rfl rfl (load_b2 ((H2.out.1.set 0 _).set 1 _))) rfl ?_
  exact ⟨rfl, Lib.hid ((H2.out.2.2.trans (((Mods.refl [rb] _).setCell (by simp) _).setCell (by simp) _) (fun k hk => .inr (by rw [List.mem_singleton.1 hk]; exact HN.out.1))))⟩
theorem mWhl_no (h : IsM W b p tb mb gp x fx M) (hF : Fine B z c M.P) (q : PtrE) (hq : ¬ (0 ≤ q.addr ∧ q.addr < (B : Int))) :
    Calls Tryz.prog 37 #[.pointer (some ⟨b, 0, none⟩), ptrV q] W fun e w' => e = .returned (.tuple #[.agg #[.bool false, .bool false], .int .i64 3]) ∧ Hid (Mods [] W w') :=
  mWhl_err (k := 3) (by decide) q (Lib.hid (fun w h1 => (mCheck_m (h.still h1) hF q.addr).mono fun e w' ⟨h2, h3⟩ => ⟨by rw [if_neg hq] at h2; exact h2, h3⟩))
theorem oWhlNo {F : List Nat} (h : OwnM W F w b p x M) (hF : Fine B z c M.P) (q : PtrE) (hq : ¬ (0 ≤ q.addr ∧ q.addr < (B : Int))) :
    Calls Tryz.prog 37 #[.pointer (some ⟨b, 0, none⟩), ptrV q] w fun e w' => e = .returned (.tuple #[.agg #[.bool false, .bool false], .int .i64 3]) ∧ Hid (Mods [] w w') := by
  obtain ⟨tb, mb, gp, fx, hI, hf⟩ := h.ex
  exact mWhl_no hI hF q hq
theorem mWhl_nil {W : World} (q : PtrE) :
    Calls Tryz.prog 37 #[.pointer none, ptrV q] W fun e w' => e = .returned (.tuple #[.agg #[.bool false, .bool false], .int .i64 1]) ∧ Hid (Mods [] W w') := by
  exact mWhl_err (k := 1) (by decide) q (Lib.hid (fun w h1 => (mCheck_nil q.addr).mono fun e w' ⟨h2, h3⟩ => ⟨h2, Lib.hid (by rw [h3]; exact Mods.refl _ _)⟩))
end
end Go.Proofs.YtnpfhfgegjocoaaGreat
namespace Go.Proofs.YtnpfhfgegjocoaaGreat

section
variable {B z n c : Nat} {M : Mi}
theorem Gm.good (h : Gm B z n c M) (hn : Sound M.P) {s i : Nat} (hs : s < 2) (hi : i < B) : (M.P.read s (i : Int)).2 = 0 :=
  read_ok h.pi hs (by rw [h.blocks s hs]; exact hi) (hn s hs (((M.P.tab s).at_ (i : Int)).1 + 4) (by omega))
/-- The copies of a block: whole or another image. -/
def Two (M : Mi) (X Y : ByteArray) (i : Nat) (h0 h1 : Bool) : Prop := M.P.read 0 (i : Int) = (if h0 = true then Y else X, 0) ∧ M.P.read 1 (i : Int) = (if h1 = true then Y else X, 0)
theorem Two.has {q : PtrE} {X Y : ByteArray} {i : Nat} {h0 h1 : Bool} (h : Two M X Y i h0 h1) (hX : meetsL q X.toList = true) (hY : meetsL q Y.toList = false) : M.has q 0 i = !h0 ∧ M.has q 1 i = !h1 := by
  refine ⟨?_, ?_⟩
  · rw [Mi.has_iff h.1]; cases h0 <;> simp [hX, hY]
  · rw [Mi.has_iff h.2]; cases h1 <;> simp [hX, hY]
theorem Gm.wholeLaw (h : Gm B z n c M) (hn : Sound M.P) {q : PtrE} {i : Nat} {X Y : ByteArray} {h0 h1 : Bool} (hx : X.size = z) (hi : i < B) (ht : Two M X Y i h0 h1) (hX : meetsL q X.toList = true) (hY : meetsL q Y.toList = false) :
    ∃ k e M', M.check q i = ((k, e), M') ∧ Gm B z n (c + 2) M' ∧ Sound M'.P ∧ e = (if (h0 && h1) = true then 10 else 0) ∧ M'.has q 0 i = !(h0 && h1) ∧ M'.has q 1 i = !(h0 && h1) := by
  obtain ⟨a0, a1⟩ := ht.has hX hY
  by_cases hb : (h0 && h1) = true
  · rw [Bool.and_eq_true] at hb
    obtain ⟨rfl, rfl⟩ := hb
    have hw := Mi.whole_no (M := M) (q := q) (i := i) (fun k hk => by rcases two_cases hk with rfl | rfl <;> assumption)
    rw [h.none] at hw
    refine ⟨0, 10, M, ?_, h.mono (by omega), hn, rfl, a0, a1⟩
    unfold Mi.check
    rw [hw]; simp
  · have hC : Cop M q X i := by
      refine ⟨fun s hs hh => ?_, ?_, hX⟩
      · rcases two_cases hs with rfl | rfl
        · rw [a0] at hh
          have e : h0 = false := by cases h0 <;> simp_all
          subst e
          exact ht.1
        · rw [a1] at hh
          have e : h1 = false := by cases h1 <;> simp_all
          subst e
          exact ht.2
      · cases h0 with
        | false => exact ⟨0, by decide, ht.1⟩
        | true =>
          have e : h1 = false := by cases h1 <;> simp_all
          subst e
          exact ⟨1, by decide, ht.2⟩
    obtain ⟨k, M', e, _, g, bt, d, _⟩ := h.checkC hx hC hi
    have n' := hn.alike bt.alike
    have hr : ∀ s, s < 2 → M'.has q s i = true := fun s hs => by
      rcases d s hs with d | ⟨d, _⟩
      · rw [Mi.has_iff d]; exact hX
      · rw [g.good n' hs hi] at d; cases d
    refine ⟨k, 0, M', e, g, n', by rw [if_neg hb], ?_, ?_⟩
    · rw [hr 0 (by decide), Bool.eq_false_iff.2 hb]; rfl
    · rw [hr 1 (by decide), Bool.eq_false_iff.2 hb]; rfl
theorem meets_turned {q : PtrE} {X : ByteArray} {k : Nat} {y : UInt8} (hX : meetsL q X.toList = true) (hk : k < X.size) (hy : y ≠ 0) : meetsL q (turnB X k y).toList = false := by
  cases hm : meetsL q (turnB X k y).toList with
  | false => rfl
  | true => exact absurd (turnB_meets hX hm) (turnB_ne hk hy)
end
end Go.Proofs.YtnpfhfgegjocoaaGreat
