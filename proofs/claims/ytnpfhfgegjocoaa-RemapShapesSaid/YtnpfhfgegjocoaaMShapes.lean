/- RemapShapes: whatever the numbers are, the law answers true. No condition but the form's own. -/
import Derived.Test.YtnpfhfgegjocoaaMRefA
import Derived.Test.YtnpfhfgegjocoaaMG
import Derived.Test.YtnpfhfgegjocoaaMF
import Derived.Outline
import Derived.Test.YtnpfhfgegjocoaaMA
import Derived.OpenShut
import Derived.Deep.CutBlock
/- A pair's refusals: nil ones, sides that there aren't, devices that may not be a pair. -/
namespace Go.Proofs.Ytnpfhfgegjocoaa
open Go.RowKit

theorem rCheck_side {W : World} (b : Nat) {s : Int} (hs : ¬ (0 ≤ s ∧ s < 2)) : Calls Try.prog 35 #[.pointer (some ⟨b, 0, none⟩), .int .i64 s] W fun e w' => e = .returned (.int .i64 2) ∧ W = w' := by
  have hd : (decide (0 ≤ s) && decide (s < 2)) = false := by
    rw [Bool.and_eq_false_iff]
    simp only [decide_eq_false_iff_not]
    omega
  have cIs := Lib.hid (fun W => rIs_any (W := W) s)
  rw [hd] at cIs
  clear hd
  go_enter Try.func35, Try.ntmps35
  go_wp2_with (go_at_call 34; refine (cIs.out _).mono ?_; rintro e w' ⟨rfl, rfl⟩)
  go_ret
  exact ⟨rfl, rfl⟩
/-- What check answers: an error. -/
def Bars (p : Value) (s : Int) (c : Nat) : Prop := c ≠ 0 ∧ ∀ W, Calls Try.prog 35 #[p, .int .i64 s] W fun e w' => e = .returned (.int .i64 (c : Nat)) ∧ W = w'
theorem bars_nil (s : Int) : Bars (.pointer none) s 1 := ⟨by decide, fun _ => rCheck_nil s⟩
theorem bars_side (b : Nat) {s : Int} (hs : ¬ (0 ≤ s ∧ s < 2)) : Bars (.pointer (some ⟨b, 0, none⟩)) s 2 := ⟨by decide, fun _ => rCheck_side b hs⟩
theorem rSector_bars {W : World} {p : Option Addr} {s : Int} {c : Nat} (h : Bars (.pointer p) s c) (i : Int) : Calls Try.prog 42 #[.pointer p, .int .i64 s, .int .i64 i] W fun e w' => e = .returned (.tuple #[.int .i64 0, .int .i64 (c : Nat)]) ∧ W = w' := by
  have cCk := Lib.hid h.2
  have hc : ¬ (c : Int) = 0 := by have := h.1; omega
  clear h
  go_enter Try.func42, Try.ntmps42
  go_wp2_with (go_at_call 35; refine (cCk.out _).mono ?_; rintro e w' ⟨rfl, rfl⟩)
  go_ret2
  exact ⟨rfl, rfl⟩
theorem rRead_bars {W : World} {p : Option Addr} {s : Int} {c : Nat} (h : Bars (.pointer p) s c) (i : Int) : Calls Try.prog 16 #[.pointer p, .int .i64 s, .int .i64 i] W fun e w' => e = .returned (.tuple #[.string ⟨#[]⟩, .int .i64 (c : Nat)]) ∧ W = w' := by
  have cSe := Lib.hid (fun W => rSector_bars (W := W) h i)
  have hc : ¬ (c : Int) = 0 := by have := h.1; omega
  clear h
  go_enter Try.func16, Try.ntmps16
  go_wp2_with (go_at_call 42; refine (cSe.out _).mono ?_; rintro e w' ⟨rfl, rfl⟩)
  go_ret2
  exact ⟨rfl, rfl⟩
theorem rMove_bars {W : World} {p : Option Addr} {s : Int} {c : Nat} (h : Bars (.pointer p) s c) (i : Int) : Calls Try.prog 12 #[.pointer p, .int .i64 s, .int .i64 i] W fun e w' => e = .returned (.int .i64 (c : Nat)) ∧ W = w' := by
  have cCk := Lib.hid h.2
  have hc : ¬ (c : Int) = 0 := by have := h.1; omega
  clear h
  go_enter Try.func12, Try.ntmps12
  go_wp2_with (go_at_call 35; refine (cCk.out _).mono ?_; rintro e w' ⟨rfl, rfl⟩)
  go_ret
  exact ⟨rfl, rfl⟩
theorem rFlush_bars {W : World} {p : Option Addr} {s : Int} {c : Nat} (h : Bars (.pointer p) s c) : Calls Try.prog 17 #[.pointer p, .int .i64 s] W fun e w' => e = .returned (.int .i64 (c : Nat)) ∧ W = w' := by
  have cCk := Lib.hid h.2
  have hc : ¬ (c : Int) = 0 := by have := h.1; omega
  clear h
  go_enter Try.func17, Try.ntmps17
  go_wp2_with (go_at_call 35; refine (cCk.out _).mono ?_; rintro e w' ⟨rfl, rfl⟩)
  go_ret
  exact ⟨rfl, rfl⟩
theorem rWrite_bars {W : World} {p : Option Addr} {s : Int} {c : Nat} (h : Bars (.pointer p) s c) (i : Int) (x : ByteArray) : Calls Try.prog 20 #[.pointer p, .int .i64 s, .int .i64 i, .string x] W fun e w' => e = .returned (.int .i64 (c : Nat)) ∧ W = w' := by
  have cSe := Lib.hid (fun W => rSector_bars (W := W) h i)
  have hc : ¬ (c : Int) = 0 := by have := h.1; omega
  clear h
  go_enter Try.func20, Try.ntmps20
  go_wp2_with fail
  refine wp_loop_rounds 1 ?_
  rw [rounds_succ]
  go_wp2_with (go_at_call 42; refine (cSe.out _).mono ?_; rintro e w' ⟨rfl, rfl⟩)
  go_ret
  exact ⟨rfl, rfl⟩
theorem rDevice_nil {W : World} (s : Int) : Calls Try.prog 14 #[.pointer none, .int .i64 s] W fun e w' => e = .returned (.pointer none) ∧ W = w' := by
  go_enter Try.func14, Try.ntmps14
  go_wp2_with fail
  go_ret
  exact ⟨rfl, rfl⟩
theorem rDevice_side {W : World} (b : Nat) {s : Int} (hs : ¬ (0 ≤ s ∧ s < 2)) : Calls Try.prog 14 #[.pointer (some ⟨b, 0, none⟩), .int .i64 s] W fun e w' => e = .returned (.pointer none) ∧ W = w' := by
  have hd : (decide (0 ≤ s) && decide (s < 2)) = false := by
    rw [Bool.and_eq_false_iff]
    simp only [decide_eq_false_iff_not]
    omega
  have cIs := Lib.hid (fun W => rIs_any (W := W) s)
  rw [hd] at cIs
  clear hd
  go_enter Try.func14, Try.ntmps14
  go_wp2_with (go_at_call 34; refine (cIs.out _).mono ?_; rintro e w' ⟨rfl, rfl⟩)
  go_ret
  exact ⟨rfl, rfl⟩
theorem rAlive_none {W : World} {p : Value} {s : Int} (h : ∀ W, Calls Try.prog 14 #[p, .int .i64 s] W fun e w' => e = .returned (.pointer none) ∧ W = w') : Calls Try.prog 30 #[p, .int .i64 s] W fun e w' => e = .returned (.bool false) ∧ W = w' := by
  have cDv := Lib.hid h
  clear h
  go_enter Try.func30, Try.ntmps30
  go_wp2_with (go_at_call 14; refine (cDv.out _).mono ?_; rintro e w' ⟨rfl, rfl⟩)
  go_ret
  exact ⟨rfl, rfl⟩
theorem rTable_nil {W : World} (s : Int) : Calls Try.prog 10 #[.pointer none, .int .i64 s] W fun e w' => e = .returned (.agg #[.int .i64 0, .int .i64 0, .slice none 0 0]) ∧ Mods [] W w' := by
  go_enter Try.func10, Try.ntmps10
  go_wp2_with fail
  have k1 := Blk.new W 35 [.int .i64 0, .int .i64 0, .slice none 0 0]
  refine bodyPost_ret (results_c rfl rfl (load_tab k1)) rfl ?_
  exact ⟨rfl, (Mods.refl _ _).alloc _⟩
theorem rReplace_nil {W : World} (s : Int) (d : Option Addr) : Calls Try.prog 29 #[.pointer none, .int .i64 s, .pointer d] W fun e w' => e = .returned (.int .i64 1) ∧ W = w' := by
  go_enter Try.func29, Try.ntmps29
  go_wp2_with fail
  go_ret
  exact ⟨rfl, rfl⟩
theorem rReplace_nilD {W : World} (b : Nat) (s : Int) : Calls Try.prog 29 #[.pointer (some ⟨b, 0, none⟩), .int .i64 s, .pointer none] W fun e w' => e = .returned (.int .i64 1) ∧ W = w' := by
  go_enter Try.func29, Try.ntmps29
  go_wp2_with fail
  go_ret
  exact ⟨rfl, rfl⟩
theorem dev_self_eql (w : World) (d : Nat) : (binOp .eql 23 (.pointer (some ⟨d, 0, none⟩)) (.pointer (some ⟨d, 0, none⟩))).run Try.prog w = .ok (.bool true) w := by
  obtain ⟨j, hj⟩ := Option.isSome_iff_exists.1 (show (Try.prog.info? 85).isSome = true by kernel_rfl)
  exact run_eql_ptr_same w ⟨d, 0, none⟩ Try.underlying23 hj
theorem rMade_nil {W : World} (d : Option Addr) (n : Int) : Calls Try.prog 45 #[.pointer none, .pointer d, .int .i64 n] W fun e w' => e = .returned (.tuple #[.pointer none, .int .i64 1]) ∧ W = w' := by
  go_enter Try.func45, Try.ntmps45
  go_wp2_with fail
  go_ret2
  exact ⟨rfl, rfl⟩
theorem rMade_same {W : World} (d : Nat) (n : Int) : Calls Try.prog 45 #[.pointer (some ⟨d, 0, none⟩), .pointer (some ⟨d, 0, none⟩), .int .i64 n] W fun e w' => e = .returned (.tuple #[.pointer none, .int .i64 2]) ∧ W = w' := by
  have hself := fun w => dev_self_eql w d
  go_enter Try.func45, Try.ntmps45
  go_wp2_with fail
  go_ret2
  exact ⟨rfl, rfl⟩
theorem rMade_unlike {W : World} {a c : Nat} {fa fc : List Nat} {D E : Dev} (ha : IsDev W a fa D) (hc : IsDev W c fc E) (hne : a ≠ c) (hsec : D.sectors ≠ E.sectors) (n : Int) :
    Calls Try.prog 45 #[.pointer (some ⟨a, 0, none⟩), .pointer (some ⟨c, 0, none⟩), .int .i64 n] W fun e w' => e = .returned (.tuple #[.pointer none, .int .i64 2]) ∧ Mods [] W w' := by
  have hdn := dev_ne ha hc hne
  have cA := Lib.hid (dShape_any ha)
  have cC := Lib.hid (fun (w : World) (h : Mods [] W w) => dShape_any (hc.keep h (by simp)))
  have hs : ¬ (D.sectors : Int) = (E.sectors : Int) := by omega
  clear ha hc hne hsec
  go_enter Try.func45, Try.ntmps45
  go_wp2_with (first | (go_at_call 56; have HM2 := HM1; refine (cC.out _ HM1.out).mono ?_; rintro e w2 ⟨rfl, hm2⟩; have HMM := Lib.hid (HM2.out.trans hm2 (by simp)); clear hm2) | (go_at_call 56; refine cA.out.mono ?_; rintro e w1 ⟨rfl, hm1⟩; have HM1 := Lib.hid hm1; clear hm1))
  go_ret2
  exact ⟨rfl, HMM.out⟩
theorem rFormat_err {W : World} {p q : Option Addr} {n : Int} {c : Nat} (hc : c ≠ 0) (h : Calls Try.prog 45 #[.pointer p, .pointer q, .int .i64 n] W fun e w' => e = .returned (.tuple #[.pointer none, .int .i64 (c : Nat)]) ∧ Mods [] W w') :
    Calls Try.prog 27 #[.pointer p, .pointer q, .int .i64 n] W fun e w' => e = .returned (.tuple #[.pointer none, .int .i64 (c : Nat)]) ∧ Mods [] W w' := by
  have cM := Lib.hid h
  have hc' : ¬ (c : Int) = 0 := by omega
  clear h
  go_enter Try.func27, Try.ntmps27
  go_wp2_with (go_at_call 45; refine cM.out.mono ?_; rintro e w1 ⟨rfl, hm1⟩; have HM1 := Lib.hid hm1; clear hm1)
  go_ret2
  exact ⟨rfl, HM1.out⟩
set_option maxRecDepth 100000 in
set_option maxHeartbeats 1600000 in
theorem rOpen_none {W : World} {x : Nat → Nat} {fx : Nat → List Nat} {dev : Nat → Dev} (h : Devs W x fx dev) (n : Nat) (hf : (newP n dev).Fit) (hc : ∀ k, k < 2 → (dev k).cache.length < 1000000) (ho : ∀ k, k < 2 → (dev k).off = false)
    (hg0 : GoodSlots (newP n dev) 0) (h0 : findP (newP n dev) 0 = none) :
    Calls Try.prog 18 #[.pointer (some ⟨x 0, 0, none⟩), .pointer (some ⟨x 1, 0, none⟩), .int .i64 (n : Nat)] W fun e w' => e = .returned (.tuple #[.pointer none, .int .i64 10]) ∧ Mods (fx 0 ++ fx 1) W w' := by
  have cMade := Lib.hid (rMade_any h n hf)
  obtain ⟨P0, hP0⟩ : ∃ P0, newP n dev = P0 := ⟨_, rfl⟩
  have hdev : P0.dev = dev := by rw [← hP0]; rfl
  rw [hP0] at cMade hg0 h0
  have hcP : ∀ k, k < 2 → (P0.dev k).cache.length < 1000000 := by rw [hdev]; exact hc
  have hoP : ∀ k, k < 2 → (P0.dev k).off = false := by rw [hdev]; exact ho
  have cF0 := Lib.hid (fun (w : World) (b : Nat) (gp : List Nat) (hp : IsPair w b gp x fx P0) => rFind_0c hp hcP hg0 none h0)
  have cO0 := Lib.hid (fun (w : World) (b : Nat) (gp : List Nat) (hp : IsPair w b gp x fx P0) => off_of (hp.dev 0 (by decide)) (hoP 0 (by decide)))
  have cO1 := Lib.hid (fun (w : World) (b : Nat) (gp : List Nat) (hp : IsPair w b gp x fx P0) => off_of (hp.dev 1 (by decide)) (hoP 1 (by decide)))
  unfold tabV at cF0
  simp only [Option.getD_none, Option.isSome_none] at cF0
  clear h hf hc ho hg0 h0 hP0 hdev hcP hoP
  go_enter Try.func18, Try.ntmps18
  go_wp2_with (first | (go_at_call 45; refine cMade.out.mono ?_; rintro e w1 ⟨b, gp, rfl, hp0, hm0, hgn0⟩) | (go_at_call 46; have HOFF2 := HOFF1; refine (cO1.out _ _ _ hp0.out).mono ?_; rintro e w' ⟨rfl, rfl⟩) | (go_at_call 46; refine (cO0.out _ _ _ hp0.out).mono ?_; rintro e w' ⟨rfl, rfl⟩; have HOFF1 : Hid True := Lib.hid trivial))
  refine wp_loop_rounds 1 ?_
  rw [rounds_succ]
  go_wp2_with (go_at_call 47; refine (cF0.out _ _ _ hp0.out).mono ?_; rintro e w2 ⟨A0, c0, rfl, hmv0, hok0, hnew0, hpf0, hmf0⟩)
  go_ret2
  exact ⟨rfl, ((hm0.out.mono (by simp)).trans hmf0.out (fun z hz => .inl hz)).alloc _⟩
set_option maxRecDepth 100000 in
set_option maxHeartbeats 6400000 in
theorem rReplace_unlike {W : World} {b : Nat} {gp : List Nat} {x : Nat → Nat} {fx : Nat → List Nat} {P : Pr} (h : IsPair W b gp x fx P) {d : Nat} {fd : List Nat} {D : Dev} (hd : IsDev W d fd D) (hz : D.sectors ≠ (P.dev 0).sectors) :
    Calls Try.prog 29 #[.pointer (some ⟨b, 0, none⟩), .int .i64 0, .pointer (some ⟨d, 0, none⟩)] W fun e w' => e = .returned (.int .i64 2) ∧ Hid (Mods [] W w') := by
  have hd0 : IsDev W (x 0) (fx 0) (P.dev 0) := h.dev 0 (by decide)
  obtain ⟨sb, m, hin, hgpe, hbs⟩ := h.pb
  have HBC : Hid (∀ w, Mods [] W w → w.cell? ⟨b, 2, none⟩ = some (.pointer (some ⟨x 0, 0, none⟩))) := Lib.hid (fun w hm => (hin.blk.keep hm (by simp)).cell (i := 2) rfl)
  have q2 := HBC.out W (Mods.refl _ _)
  have hne : d ≠ x 0 := fun e => by
    subst e
    have h1 := hd
    obtain ⟨mb, bb, cv, c0, c1, c2, i1, _, _⟩ := hd
    obtain ⟨mb', bb', cv', c0', c1', c2', i2, _, _⟩ := hd0
    have h3 := i1.dev.inj i2.dev
    unfold devCells at h3
    simp only [List.cons.injEq, Value.int.injEq, true_and] at h3
    omega
  have cSh := Lib.hid (fun (w : World) (p : Nat) (hm : Mods [] W w) (hp : p = d ∨ p = x 0) => show Calls Try.prog 56 #[.pointer (some ⟨p, 0, none⟩)] w fun e w' => e = .returned (.agg #[.int .i64 ((if p = d then D.sectors else (P.dev 0).sectors : Nat) : Nat), .int .i64 ((if p = d then D.size else (P.dev 0).size : Nat) : Nat)]) ∧ Mods [] w w' from by
    rcases hp with rfl | rfl
    · rw [if_pos rfl, if_pos rfl]; exact dShape_any (hd.keep hm (by simp))
    · rw [if_neg (fun e => hne e.symm), if_neg (fun e => hne e.symm)]; exact dShape_any (hd0.keep hm (by simp)))
  obtain ⟨y, hy⟩ : ∃ y, x 0 = y := ⟨_, rfl⟩
  obtain ⟨n1, hn1⟩ : ∃ n1, D.sectors = n1 := ⟨_, rfl⟩
  obtain ⟨n2, hn2⟩ : ∃ n2, (P.dev 0).sectors = n2 := ⟨_, rfl⟩
  obtain ⟨z1, hz1⟩ : ∃ z, D.size = z := ⟨_, rfl⟩
  obtain ⟨z2, hz2⟩ : ∃ z, (P.dev 0).size = z := ⟨_, rfl⟩
  rw [hn1, hn2] at hz
  rw [hn1, hn2, hz1, hz2] at cSh
  rw [hy] at HBC q2 cSh hne
  have hyd : ¬ y = d := fun e => hne e.symm
  have hz' : ¬ (n1 : Int) = (n2 : Int) := by omega
  clear h hd hd0 hin hgpe hbs hz hy hn1 hn2 hz1 hz2
  go_enter Try.func29, Try.ntmps29
  go_upto_region 3 with fail
  go_cut [17] from 18 to 49 (fun v wx => v = .bool true ∧ Hid (Mods [] W wx))
  case first =>
    refine wp_region_held_drew (S := fun w' => w'.cell? ⟨b, 2, none⟩ = some (.pointer (some ⟨y, 0, none⟩))) (by kernel_rfl) (HBC.out _ (Mods.refl _ _).drew) (fun hHeld => ?_)
    refine wpAnyH_take (i := 0) (oi := { dst := some 18, op := Op.move (Operand.tmp 1), type := 3, pos := "remap.go:265", after := #[], guard := none }) (v := .int .i64 0) rfl (by kernel_rfl) (by kernel_rfl) (by kernel_rfl) (fun _ _ _ h => h) (Or.inl ⟨by rfl, ?_⟩) hHeld ?_
    · intro w hSw
      try dsimp only at hSw
      go_simp
    try simp only [Act.put, List.setIfInBounds_toArray, List.set_cons_zero, List.set_cons_succ]
    refine wpAnyH_ready (rs := [1]) (by kernel_rfl) (by simp) ?_
    refine AllReadyH.cons (o := { dst := some 19, op := Op.call { callee := Callee.value (Operand.func 34), args := #[Operand.tmp 18], argTypes := #[3] }, type := 4, pos := "remap.go:265", after := #[{ on := 0, ground := Ground.data }], guard := none }) rfl (fun K hK => ?_) AllReadyH.nil
    go_simp
    refine (rIs_any _).mono ?_
    rintro e w' ⟨rfl, rfl⟩
    (try go_wp2_with fail)
    refine hK.out _ _ (HBC.out _ (Mods.refl _ _).drew) (fun hHeld => ?_)
    clear hK K
    try simp only [Act.put, List.setIfInBounds_toArray, List.set_cons_zero, List.set_cons_succ]
    refine wpAnyH_take (i := 2) (oi := { dst := some 20, op := Op.unOp UnOp.not 4 (Operand.tmp 19), type := 4, pos := "remap.go:265", after := #[{ on := 1, ground := Ground.data }], guard := none }) (v := .bool false) rfl (by kernel_rfl) (by kernel_rfl) (by kernel_rfl) (fun _ _ _ h => h) (Or.inl ⟨by rfl, ?_⟩) hHeld ?_
    · intro w hSw
      try dsimp only at hSw
      go_simp
    try simp only [Act.put, List.setIfInBounds_toArray, List.set_cons_zero, List.set_cons_succ]
    refine wpAnyH_take (i := 3) (oi := { dst := some 21, op := Op.move (Operand.tmp 20), type := 4, pos := "remap.go:265", after := #[{ on := 2, ground := Ground.data }, { on := 1, ground := Ground.chain }], guard := none }) (v := .bool false) rfl (by kernel_rfl) (by kernel_rfl) (by kernel_rfl) (fun _ _ _ h => h) (Or.inl ⟨by rfl, ?_⟩) hHeld ?_
    · intro w hSw
      try dsimp only at hSw
      go_simp
    try simp only [Act.put, List.setIfInBounds_toArray, List.set_cons_zero, List.set_cons_succ]
    refine wpAnyH_take (i := 4) (oi := { dst := some 22, op := Op.move (Operand.tmp 2), type := 23, pos := "remap.go:265", after := #[{ on := 3, ground := Ground.guard }], guard := some (3, false) }) (v := .pointer (some ⟨d, 0, none⟩)) rfl (by kernel_rfl) (by kernel_rfl) (by kernel_rfl) (fun _ _ _ h => h) (Or.inl ⟨by rfl, ?_⟩) hHeld ?_
    · intro w hSw
      try dsimp only at hSw
      go_simp
    try simp only [Act.put, List.setIfInBounds_toArray, List.set_cons_zero, List.set_cons_succ]
    refine wpAnyH_take (i := 6) (oi := { dst := some 24, op := Op.move (Operand.tmp 0), type := 24, pos := "remap.go:265", after := #[{ on := 3, ground := Ground.guard }], guard := some (3, false) }) (v := .pointer (some ⟨b, 0, none⟩)) rfl (by kernel_rfl) (by kernel_rfl) (by kernel_rfl) (fun _ _ _ h => h) (Or.inl ⟨by rfl, ?_⟩) hHeld ?_
    · intro w hSw
      try dsimp only at hSw
      go_simp
    try simp only [Act.put, List.setIfInBounds_toArray, List.set_cons_zero, List.set_cons_succ]
    refine wpAnyH_take (i := 7) (oi := { dst := some 25, op := Op.nilCheck (Operand.tmp 24), type := 0, pos := "remap.go:265", after := #[{ on := 6, ground := Ground.data }, { on := 3, ground := Ground.guard }], guard := some (3, false) }) (v := .pointer (some ⟨b, 0, none⟩)) rfl (by kernel_rfl) (by kernel_rfl) (by kernel_rfl) (fun _ _ _ h => h) (Or.inl ⟨by rfl, ?_⟩) hHeld ?_
    · intro w hSw
      try dsimp only at hSw
      go_simp
    try simp only [Act.put, List.setIfInBounds_toArray, List.set_cons_zero, List.set_cons_succ]
    refine wpAnyH_take (i := 8) (oi := { dst := some 26, op := Op.fieldAddr 76 (Operand.tmp 25) 2, type := 0, pos := "remap.go:265", after := #[{ on := 7, ground := Ground.data }, { on := 3, ground := Ground.guard }], guard := some (3, false) }) (v := .pointer (some ⟨b, 2, none⟩)) rfl (by kernel_rfl) (by kernel_rfl) (by kernel_rfl) (fun _ _ _ h => h) (Or.inl ⟨by rfl, ?_⟩) hHeld ?_
    · intro w hSw
      try dsimp only at hSw
      go_simp
    try simp only [Act.put, List.setIfInBounds_toArray, List.set_cons_zero, List.set_cons_succ]
    refine wpAnyH_take (i := 9) (oi := { dst := some 27, op := Op.indexAddr 73 (Operand.tmp 26) (Operand.const (Value.int IntKind.i64 0)), type := 0, pos := "remap.go:265", after := #[{ on := 8, ground := Ground.data }, { on := 3, ground := Ground.guard }], guard := some (3, false) }) (v := .pointer (some ⟨b, 2, none⟩)) rfl (by kernel_rfl) (by kernel_rfl) (by kernel_rfl) (fun _ _ _ h => h) (Or.inl ⟨by rfl, ?_⟩) hHeld ?_
    · intro w hSw
      try dsimp only at hSw
      go_simp
    try simp only [Act.put, List.setIfInBounds_toArray, List.set_cons_zero, List.set_cons_succ]
    refine wpAnyH_take (i := 10) (oi := { dst := some 28, op := Op.load 23 (Operand.tmp 27), type := 23, pos := "remap.go:265", after := #[{ on := 9, ground := Ground.data }, { on := 3, ground := Ground.guard }], guard := some (3, false) }) (v := .pointer (some ⟨y, 0, none⟩)) rfl (by kernel_rfl) (by kernel_rfl) (by kernel_rfl) (fun _ _ _ h => h) (Or.inl ⟨by rfl, ?_⟩) hHeld ?_
    · intro w hSw
      try dsimp only at hSw
      go_simp
    try simp only [Act.put, List.setIfInBounds_toArray, List.set_cons_zero, List.set_cons_succ]
    refine wpAnyH_ready (rs := [5]) (by kernel_rfl) (by simp) ?_
    refine AllReadyH.cons (o := { dst := some 23, op := Op.call { callee := Callee.value (Operand.func 56), args := #[Operand.tmp 22], argTypes := #[23] }, type := 61, pos := "remap.go:265", after := #[{ on := 4, ground := Ground.data }, { on := 3, ground := Ground.chain }, { on := 3, ground := Ground.guard }], guard := some (3, false) }) rfl (fun K hK => ?_) AllReadyH.nil
    go_simp
    refine (cSh.out _ _ (Mods.refl _ _).drew ?_).mono ?_
    any_goals (first | exact Or.inl rfl | exact Or.inr rfl)
    rintro e wb ⟨rfl, hm⟩
    have HMb : Hid (Mods [] W wb) := Lib.hid (((Mods.refl [] W).drew).trans hm (by simp))
    have r2 := HBC.out wb HMb.out
    clear hm
    (try go_wp2_with fail)
    refine hK.out _ _ (r2) (fun hHeld => ?_)
    clear hK K
    try simp only [Act.put, List.setIfInBounds_toArray, List.set_cons_zero, List.set_cons_succ]
    refine wpAnyH_ready (rs := [11]) (by kernel_rfl) (by simp) ?_
    refine AllReadyH.cons (o := { dst := some 29, op := Op.call { callee := Callee.value (Operand.func 56), args := #[Operand.tmp 28], argTypes := #[23] }, type := 61, pos := "remap.go:265", after := #[{ on := 10, ground := Ground.data }, { on := 5, ground := Ground.chain }, { on := 3, ground := Ground.guard }], guard := some (3, false) }) rfl (fun K hK => ?_) AllReadyH.nil
    go_simp
    refine (cSh.out _ _ HMb.out ?_).mono ?_
    any_goals (first | exact Or.inl rfl | exact Or.inr rfl)
    rintro e wc ⟨rfl, hm⟩
    have HMc : Hid (Mods [] W wc) := Lib.hid (HMb.out.trans hm (by simp))
    have s2 := HBC.out wc HMc.out
    clear hm
    (try go_wp2_with fail)
    refine hK.out _ _ (s2) (fun hHeld => ?_)
    clear hK K
    try simp only [Act.put, List.setIfInBounds_toArray, List.set_cons_zero, List.set_cons_succ]
    refine wpAnyH_take (i := 12) (oi := { dst := some 30, op := Op.binOp BinOp.neq 61 (Operand.tmp 23) (Operand.tmp 29) 61, type := 4, pos := "remap.go:265", after := #[{ on := 5, ground := Ground.data }, { on := 11, ground := Ground.data }, { on := 3, ground := Ground.guard }], guard := some (3, false) }) (v := .bool true) rfl (by kernel_rfl) (by kernel_rfl) (by kernel_rfl) (fun _ _ _ h => h) (Or.inl ⟨by rfl, ?_⟩) hHeld ?_
    · intro w hSw
      try dsimp only at hSw
      go_simp
    try simp only [Act.put, List.setIfInBounds_toArray, List.set_cons_zero, List.set_cons_succ]
    refine wpAnyH_take (i := 13) (oi := { dst := some 31, op := Op.pick (Operand.tmp 21) (Operand.const (Value.bool true)) (Operand.tmp 30), type := 4, pos := "remap.go:265", after := #[{ on := 3, ground := Ground.data }, { on := 12, ground := Ground.data }], guard := none }) (v := .bool true) rfl (by kernel_rfl) (by kernel_rfl) (by kernel_rfl) (fun _ _ _ h => h) (Or.inl ⟨by rfl, ?_⟩) hHeld ?_
    · intro w hSw
      try dsimp only at hSw
      go_simp
    try simp only [Act.put, List.setIfInBounds_toArray, List.set_cons_zero, List.set_cons_succ]
    refine wpAnyH_take (i := 14) (oi := { dst := some 32, op := Op.move (Operand.tmp 31), type := 4, pos := "remap.go:265", after := #[{ on := 13, ground := Ground.data }, { on := 11, ground := Ground.chain }], guard := none }) (v := .bool true) rfl (by kernel_rfl) (by kernel_rfl) (by kernel_rfl) (fun _ _ _ h => h) (Or.inl ⟨by rfl, ?_⟩) hHeld ?_
    · intro w hSw
      try dsimp only at hSw
      go_simp
    try simp only [Act.put, List.setIfInBounds_toArray, List.set_cons_zero, List.set_cons_succ]
    refine wpAnyH_take (i := 15) (oi := { dst := some 33, op := Op.move (Operand.tmp 2), type := 23, pos := "remap.go:265", after := #[{ on := 14, ground := Ground.guard }], guard := some (14, false) }) (v := undef) rfl (by kernel_rfl) (by kernel_rfl) (by kernel_rfl) (fun _ _ _ h => h) (Or.inr ⟨by rfl, rfl⟩) hHeld ?_
    try simp only [Act.put, List.setIfInBounds_toArray, List.set_cons_zero, List.set_cons_succ]
    refine wpAnyH_take (i := 16) (oi := { dst := some 34, op := Op.move (Operand.tmp 0), type := 24, pos := "remap.go:265", after := #[{ on := 14, ground := Ground.guard }], guard := some (14, false) }) (v := undef) rfl (by kernel_rfl) (by kernel_rfl) (by kernel_rfl) (fun _ _ _ h => h) (Or.inr ⟨by rfl, rfl⟩) hHeld ?_
    try simp only [Act.put, List.setIfInBounds_toArray, List.set_cons_zero, List.set_cons_succ]
    refine wpAnyH_take (i := 17) (oi := { dst := some 35, op := Op.nilCheck (Operand.tmp 34), type := 0, pos := "remap.go:265", after := #[{ on := 16, ground := Ground.data }, { on := 14, ground := Ground.guard }], guard := some (14, false) }) (v := undef) rfl (by kernel_rfl) (by kernel_rfl) (by kernel_rfl) (fun _ _ _ h => h) (Or.inr ⟨by rfl, rfl⟩) hHeld ?_
    try simp only [Act.put, List.setIfInBounds_toArray, List.set_cons_zero, List.set_cons_succ]
    refine wpAnyH_take (i := 18) (oi := { dst := some 36, op := Op.fieldAddr 76 (Operand.tmp 35) 2, type := 0, pos := "remap.go:265", after := #[{ on := 17, ground := Ground.data }, { on := 14, ground := Ground.guard }], guard := some (14, false) }) (v := undef) rfl (by kernel_rfl) (by kernel_rfl) (by kernel_rfl) (fun _ _ _ h => h) (Or.inr ⟨by rfl, rfl⟩) hHeld ?_
    try simp only [Act.put, List.setIfInBounds_toArray, List.set_cons_zero, List.set_cons_succ]
    refine wpAnyH_take (i := 19) (oi := { dst := some 37, op := Op.indexAddr 73 (Operand.tmp 36) (Operand.const (Value.int IntKind.i64 0)), type := 0, pos := "remap.go:265", after := #[{ on := 18, ground := Ground.data }, { on := 14, ground := Ground.guard }], guard := some (14, false) }) (v := undef) rfl (by kernel_rfl) (by kernel_rfl) (by kernel_rfl) (fun _ _ _ h => h) (Or.inr ⟨by rfl, rfl⟩) hHeld ?_
    try simp only [Act.put, List.setIfInBounds_toArray, List.set_cons_zero, List.set_cons_succ]
    refine wpAnyH_take (i := 20) (oi := { dst := some 38, op := Op.load 23 (Operand.tmp 37), type := 23, pos := "remap.go:265", after := #[{ on := 19, ground := Ground.data }, { on := 14, ground := Ground.guard }], guard := some (14, false) }) (v := undef) rfl (by kernel_rfl) (by kernel_rfl) (by kernel_rfl) (fun _ _ _ h => h) (Or.inr ⟨by rfl, rfl⟩) hHeld ?_
    try simp only [Act.put, List.setIfInBounds_toArray, List.set_cons_zero, List.set_cons_succ]
    refine wpAnyH_take (i := 21) (oi := { dst := some 39, op := Op.binOp BinOp.eql 23 (Operand.tmp 33) (Operand.tmp 38) 23, type := 4, pos := "remap.go:265", after := #[{ on := 15, ground := Ground.data }, { on := 20, ground := Ground.data }, { on := 14, ground := Ground.guard }], guard := some (14, false) }) (v := undef) rfl (by kernel_rfl) (by kernel_rfl) (by kernel_rfl) (fun _ _ _ h => h) (Or.inr ⟨by rfl, rfl⟩) hHeld ?_
    try simp only [Act.put, List.setIfInBounds_toArray, List.set_cons_zero, List.set_cons_succ]
    refine wpAnyH_take (i := 22) (oi := { dst := some 40, op := Op.pick (Operand.tmp 32) (Operand.const (Value.bool true)) (Operand.tmp 39), type := 4, pos := "remap.go:265", after := #[{ on := 14, ground := Ground.data }, { on := 21, ground := Ground.data }], guard := none }) (v := .bool true) rfl (by kernel_rfl) (by kernel_rfl) (by kernel_rfl) (fun _ _ _ h => h) (Or.inl ⟨by rfl, ?_⟩) hHeld ?_
    · intro w hSw
      try dsimp only at hSw
      go_simp
    try simp only [Act.put, List.setIfInBounds_toArray, List.set_cons_zero, List.set_cons_succ]
    refine wpAnyH_take (i := 23) (oi := { dst := some 41, op := Op.move (Operand.tmp 40), type := 4, pos := "remap.go:265", after := #[{ on := 22, ground := Ground.data }, { on := 14, ground := Ground.chain }], guard := none }) (v := .bool true) rfl (by kernel_rfl) (by kernel_rfl) (by kernel_rfl) (fun _ _ _ h => h) (Or.inl ⟨by rfl, ?_⟩) hHeld ?_
    · intro w hSw
      try dsimp only at hSw
      go_simp
    try simp only [Act.put, List.setIfInBounds_toArray, List.set_cons_zero, List.set_cons_succ]
    refine wpAnyH_take (i := 24) (oi := { dst := some 42, op := Op.move (Operand.tmp 2), type := 23, pos := "remap.go:265", after := #[{ on := 23, ground := Ground.guard }], guard := some (23, false) }) (v := undef) rfl (by kernel_rfl) (by kernel_rfl) (by kernel_rfl) (fun _ _ _ h => h) (Or.inr ⟨by rfl, rfl⟩) hHeld ?_
    try simp only [Act.put, List.setIfInBounds_toArray, List.set_cons_zero, List.set_cons_succ]
    refine wpAnyH_take (i := 25) (oi := { dst := some 43, op := Op.move (Operand.tmp 0), type := 24, pos := "remap.go:265", after := #[{ on := 23, ground := Ground.guard }], guard := some (23, false) }) (v := undef) rfl (by kernel_rfl) (by kernel_rfl) (by kernel_rfl) (fun _ _ _ h => h) (Or.inr ⟨by rfl, rfl⟩) hHeld ?_
    try simp only [Act.put, List.setIfInBounds_toArray, List.set_cons_zero, List.set_cons_succ]
    refine wpAnyH_take (i := 26) (oi := { dst := some 44, op := Op.nilCheck (Operand.tmp 43), type := 0, pos := "remap.go:265", after := #[{ on := 25, ground := Ground.data }, { on := 23, ground := Ground.guard }], guard := some (23, false) }) (v := undef) rfl (by kernel_rfl) (by kernel_rfl) (by kernel_rfl) (fun _ _ _ h => h) (Or.inr ⟨by rfl, rfl⟩) hHeld ?_
    try simp only [Act.put, List.setIfInBounds_toArray, List.set_cons_zero, List.set_cons_succ]
    refine wpAnyH_take (i := 27) (oi := { dst := some 45, op := Op.fieldAddr 76 (Operand.tmp 44) 2, type := 0, pos := "remap.go:265", after := #[{ on := 26, ground := Ground.data }, { on := 23, ground := Ground.guard }], guard := some (23, false) }) (v := undef) rfl (by kernel_rfl) (by kernel_rfl) (by kernel_rfl) (fun _ _ _ h => h) (Or.inr ⟨by rfl, rfl⟩) hHeld ?_
    try simp only [Act.put, List.setIfInBounds_toArray, List.set_cons_zero, List.set_cons_succ]
    refine wpAnyH_take (i := 28) (oi := { dst := some 46, op := Op.indexAddr 73 (Operand.tmp 45) (Operand.const (Value.int IntKind.i64 1)), type := 0, pos := "remap.go:265", after := #[{ on := 27, ground := Ground.data }, { on := 23, ground := Ground.guard }], guard := some (23, false) }) (v := undef) rfl (by kernel_rfl) (by kernel_rfl) (by kernel_rfl) (fun _ _ _ h => h) (Or.inr ⟨by rfl, rfl⟩) hHeld ?_
    try simp only [Act.put, List.setIfInBounds_toArray, List.set_cons_zero, List.set_cons_succ]
    refine wpAnyH_take (i := 29) (oi := { dst := some 47, op := Op.load 23 (Operand.tmp 46), type := 23, pos := "remap.go:265", after := #[{ on := 28, ground := Ground.data }, { on := 23, ground := Ground.guard }], guard := some (23, false) }) (v := undef) rfl (by kernel_rfl) (by kernel_rfl) (by kernel_rfl) (fun _ _ _ h => h) (Or.inr ⟨by rfl, rfl⟩) hHeld ?_
    try simp only [Act.put, List.setIfInBounds_toArray, List.set_cons_zero, List.set_cons_succ]
    refine wpAnyH_take (i := 30) (oi := { dst := some 48, op := Op.binOp BinOp.eql 23 (Operand.tmp 42) (Operand.tmp 47) 23, type := 4, pos := "remap.go:265", after := #[{ on := 24, ground := Ground.data }, { on := 29, ground := Ground.data }, { on := 23, ground := Ground.guard }], guard := some (23, false) }) (v := undef) rfl (by kernel_rfl) (by kernel_rfl) (by kernel_rfl) (fun _ _ _ h => h) (Or.inr ⟨by rfl, rfl⟩) hHeld ?_
    try simp only [Act.put, List.setIfInBounds_toArray, List.set_cons_zero, List.set_cons_succ]
    refine wpAnyH_take (i := 31) (oi := { dst := some 49, op := Op.pick (Operand.tmp 41) (Operand.const (Value.bool true)) (Operand.tmp 48), type := 4, pos := "remap.go:265", after := #[{ on := 23, ground := Ground.data }, { on := 30, ground := Ground.data }], guard := none }) (v := .bool true) rfl (by kernel_rfl) (by kernel_rfl) (by kernel_rfl) (fun _ _ _ h => h) (Or.inl ⟨by rfl, ?_⟩) hHeld ?_
    · intro w hSw
      try dsimp only at hSw
      go_simp
    try simp only [Act.put, List.setIfInBounds_toArray, List.set_cons_zero, List.set_cons_succ]
    refine wpAnyH_take (i := 32) (oi := { dst := some 17, op := Op.assign (Operand.tmp 49), type := 4, pos := "remap.go:265", after := #[{ on := 31, ground := Ground.data }, { on := 23, ground := Ground.chain }], guard := none }) (v := .bool true) rfl (by kernel_rfl) (by kernel_rfl) (by kernel_rfl) (fun _ _ _ h => h) (Or.inl ⟨by rfl, ?_⟩) hHeld ?_
    · intro w hSw
      try dsimp only at hSw
      go_simp
    try simp only [Act.put, List.setIfInBounds_toArray, List.set_cons_zero, List.set_cons_succ]
    refine wpAnyH_done (by kernel_rfl) ?_ _
    go_wp2_with fail
    go_meet
    exact ⟨rfl, HMc⟩
  case rest =>
    obtain ⟨rfl, HMW⟩ := hcut
    go_wp2_with fail
    go_ret
    exact ⟨rfl, HMW⟩
end Go.Proofs.Ytnpfhfgegjocoaa
/- Replace by the other side's own device is refused. -/
namespace Go.Proofs.Ytnpfhfgegjocoaa
open Go.RowKit

set_option maxRecDepth 100000 in
set_option maxHeartbeats 3200000 in
theorem rReplace_other {W : World} {b : Nat} {gp : List Nat} {x : Nat → Nat} {fx : Nat → List Nat} {P : Pr} (h : IsPair W b gp x fx P) :
    Calls Try.prog 29 #[.pointer (some ⟨b, 0, none⟩), .int .i64 0, .pointer (some ⟨x 1, 0, none⟩)] W fun e w' => e = .returned (.int .i64 2) ∧ Hid (Mods [] W w') := by
  obtain ⟨zs, hzs⟩ : ∃ zs, (P.dev 0).size = zs := ⟨_, rfl⟩
  obtain ⟨zn, hzn⟩ : ∃ zn, (P.dev 0).sectors = zn := ⟨_, rfl⟩
  have hd0 : IsDev W (x 0) (fx 0) (P.dev 0) := h.dev 0 (by decide)
  have hd1 : IsDev W (x 1) (fx 1) (P.dev 1) := h.dev 1 (by decide)
  have hsm := h.same 1 (by decide)
  have hne : x 1 ≠ x 0 := fun e => h.apart 1 (by decide) (x 1) hd1.head (by rw [e]; exact hd0.head)
  have cSh := Lib.hid (fun (w : World) (p : Nat) (hm : Mods [] W w) (hp : p = x 1 ∨ p = x 0) => show Calls Try.prog 56 #[.pointer (some ⟨p, 0, none⟩)] w fun e w' => e = .returned (.agg #[.int .i64 (zn : Nat), .int .i64 (zs : Nat)]) ∧ Mods [] w w' from by
    rcases hp with rfl | rfl
    · have h1 := dShape_any (hd1.keep hm (by simp))
      rw [hsm.1, hsm.2, hzs, hzn] at h1; exact h1
    · have h1 := dShape_any (hd0.keep hm (by simp))
      rw [hzs, hzn] at h1; exact h1)
  obtain ⟨sb, m, hin, hgpe, hbs⟩ := h.pb
  have HBC : Hid (∀ w, Mods [] W w → w.cell? ⟨b, 2, none⟩ = some (.pointer (some ⟨x 0, 0, none⟩)) ∧ w.cell? ⟨b, 3, none⟩ = some (.pointer (some ⟨x 1, 0, none⟩)) ∧ (binOp .eql 23 (.pointer (some ⟨x 1, 0, none⟩)) (.pointer (some ⟨x 0, 0, none⟩))).run Try.prog w = .ok (.bool false) w ∧ (binOp .eql 23 (.pointer (some ⟨x 1, 0, none⟩)) (.pointer (some ⟨x 1, 0, none⟩))).run Try.prog w = .ok (.bool true) w) := Lib.hid (fun w hm => by
    have hb := hin.blk.keep hm (by simp)
    exact ⟨hb.cell (i := 2) rfl, hb.cell (i := 3) rfl, dev_ne (hd1.keep hm (by simp)) (hd0.keep hm (by simp)) hne, dev_self_eql w (x 1)⟩)
  obtain ⟨y0, hy0⟩ : ∃ y, x 0 = y := ⟨_, rfl⟩
  obtain ⟨y1, hy1⟩ : ∃ y, x 1 = y := ⟨_, rfl⟩
  rw [hy0, hy1] at HBC cSh
  rw [hy1]
  clear h hd0 hd1 hsm hne hin hgpe hbs hzs hzn hy0 hy1
  go_enter Try.func29, Try.ntmps29
  go_upto_region 3 with fail
  obtain ⟨q2, q3, q4, q5⟩ := HBC.out W (Mods.refl _ _)
  go_cut [17] from 18 to 49 (fun v wx => v = .bool true ∧ Hid (Mods [] W wx))
  case first =>
    go_region_held3 (fun w' => w'.cell? ⟨b, 2, none⟩ = some (.pointer (some ⟨y0, 0, none⟩)) ∧ w'.cell? ⟨b, 3, none⟩ = some (.pointer (some ⟨y1, 0, none⟩)) ∧ (binOp .eql 23 (.pointer (some ⟨y1, 0, none⟩)) (.pointer (some ⟨y0, 0, none⟩))).run Try.prog w' = .ok (.bool false) w' ∧ (binOp .eql 23 (.pointer (some ⟨y1, 0, none⟩)) (.pointer (some ⟨y1, 0, none⟩))).run Try.prog w' = .ok (.bool true) w')
      (first | exact r2 | exact s2 | exact HBC.out _ (Mods.refl _ _).drew | exact HBC.out _ (Mods.refl _ _) | fail)
      (first | (go_at_call 34; refine (rIs_any _).mono ?_; rintro e w' ⟨rfl, rfl⟩) | (go_at_call 56; have HMb2 := HMb; refine (cSh.out _ _ HMb.out ?_).mono ?_; (any_goals (first | exact Or.inl rfl | exact Or.inr rfl)); rintro e wc ⟨rfl, hm⟩; have HMc : Hid (Mods [] W wc) := Lib.hid (HMb2.out.trans hm (by simp)); have s2 := HBC.out wc HMc.out; clear hm) | (go_at_call 56; refine (cSh.out _ _ (Mods.refl _ _).drew ?_).mono ?_; (any_goals (first | exact Or.inl rfl | exact Or.inr rfl)); rintro e wb ⟨rfl, hm⟩; have HMb : Hid (Mods [] W wb) := Lib.hid (((Mods.refl [] W).drew).trans hm (by simp)); have r2 := HBC.out wb HMb.out; clear hm))
    all_goals go_wp2_with fail
    all_goals go_meet
    all_goals exact ⟨rfl, HMc⟩
  case rest =>
    obtain ⟨rfl, HMW⟩ := hcut
    go_wp2_with fail
    go_ret
    exact ⟨rfl, HMW⟩
end Go.Proofs.Ytnpfhfgegjocoaa
/- Arguments that are arrays of three numbers: what the reading gives a walk. No program is named here. -/
namespace Go.Proofs.Ytnpfhfgegjocoaa
open Go.ChangeShapes Go.WideShapes Go.ChangeAt Go.RowKit

theorem arr3_open {H : Type} {enc : TypeId × Value → H} {P : Program} {W : World} {t e : TypeId} {q : IntKind} {base : Nat} {v : Value} {d : DataW H} {p : List MemPlace} (ht : P.underlying t = some (.array 3 e)) (he : P.underlying e = some (.int q))
    (ct : P.cellsOf t = 3) (ce : P.cellsOf e = 1) (hv : Value.okWide P W .any base t v) (hj : DataW.Trod enc P W 0 (fun _ => true) true t v d p) :
    ∃ a b c : Int, v = .agg #[.int q a, .int q b, .int q c] ∧ d = .agg [.lit (.int q a), .lit (.int q b), .lit (.int q c)] ∧ p = [] ∧ (Lit.int q a).wf = true ∧ (Lit.int q b).wf = true ∧ (Lit.int q c).wf = true := by
  simp only [Value.okWide, ht] at hv
  obtain ⟨cs, rfl, hsz, _⟩ := hv
  rw [ct] at hsz
  obtain ⟨l⟩ := cs
  obtain ⟨c0, c1, c2, rfl⟩ : ∃ c0 c1 c2, l = [c0, c1, c2] := by
    match l, hsz with
    | [c0, c1, c2], _ => exact ⟨c0, c1, c2, rfl⟩
  obtain ⟨fuel, hf⟩ := hj
  obtain ⟨xs, m, rfl, hx, _, hl, hg⟩ := DataW.trod_array ht hf
  have g0 := hg 0 (by omega)
  have g1 := hg 1 (by omega)
  have g2 := hg 2 (by omega)
  rw [ce] at g0 g1 g2
  simp [Value.cells] at g0 g1 g2
  obtain ⟨y0, y1, y2, rfl⟩ : ∃ y0 y1 y2, xs = [y0, y1, y2] := by
    match xs, hl with
    | [y0, y1, y2], _ => exact ⟨y0, y1, y2, rfl⟩
  simp at g0 g1 g2
  obtain ⟨a, ea, rfl, wa⟩ := DataW.trod_int he g0
  obtain ⟨b, eb, rfl, wb⟩ := DataW.trod_int he g1
  obtain ⟨c, ec, rfl, wc⟩ := DataW.trod_int he g2
  simp at ea eb ec
  subst ea eb ec
  simp only [Prod.mk.injEq] at hx
  obtain ⟨rfl, rfl⟩ := hx
  exact ⟨a, b, c, rfl, rfl, rfl, wa, wb, wc⟩
end Go.Proofs.Ytnpfhfgegjocoaa
/- RemapShapes: what its walk needs. -/
namespace Go.Proofs.Ytnpfhfgegjocoaa
open Go.RowKit

theorem new_look (n s : Nat) (hn : 4 ≤ n) (hq : DevQ (Dev.new n s)) (side d g : Nat) : look (newP 4 (fun _ => Dev.new n s)) side d g = none := by
  unfold look
  have h1 := hq.slot (slotOf_lt (decide (d = side)) g)
  have h2 := new_empty n s hn _ (slotOf_lt (decide (d = side)) g)
  show (if ((Dev.new n s).read (slotOf (decide (d = side)) g : Nat)).2 ≠ 0 then none else parseP _ _ side ((Dev.new n s).read (slotOf (decide (d = side)) g : Nat)).1) = none
  rw [h1]
  simp only [ne_eq, not_true_eq_false, if_false]
  unfold parseP
  rw [h2]
theorem new_find (n s : Nat) (hn : 4 ≤ n) (hq : DevQ (Dev.new n s)) (side : Nat) : findP (newP 4 (fun _ => Dev.new n s)) side = none := by
  unfold findP
  rw [new_look n s hn hq, new_look n s hn hq, new_look n s hn hq, new_look n s hn hq]
  rfl
theorem new_good (n s : Nat) (hn : 4 ≤ n) (hq : DevQ (Dev.new n s)) (side : Nat) : GoodSlots (newP 4 (fun _ => Dev.new n s)) side := by
  intro d k hd hk hh pl ho _ _
  have h1 := hq.slot (slotOf_lt (decide (d = side)) k)
  have h2 := new_empty n s hn _ (slotOf_lt (decide (d = side)) k)
  have e : (newP 4 (fun _ => Dev.new n s)).dev d = Dev.new n s := rfl
  rw [e, h1] at ho
  simp only at ho
  rw [h2] at ho
  cases ho
/-- Open of two new devices. -/
theorem gOpenNew {W : World} {x : Nat → Nat} {fx : Nat → List Nat} (h : Devs W x fx (fun _ => Dev.new 20 128)) :
    Calls Try.prog 18 #[.pointer (some ⟨x 0, 0, none⟩), .pointer (some ⟨x 1, 0, none⟩), .int .i64 4] W fun e w' => e = .returned (.tuple #[.pointer none, .int .i64 10]) ∧ Hid (Mods (fx 0 ++ fx 1) W w') :=
  rOpen_none h 4 p00_fit (fun _ _ => by show (0 : Nat) < 1000000; omega) (fun _ _ => rfl) (new_good 20 128 (by omega) (new_quiet 20 128 shape_right) 0) (new_find 20 128 (by omega) (new_quiet 20 128 shape_right) 0)
/-- Something beside the pair turned. -/
theorem Own.beside {W w w' : World} {x : Nat → Nat} {fx : Nat → List Nat} {b : Nat} {gp : List Nat} {P : Pr} {L : List Nat} (h : Own W w x fx b gp P) (hm : Mods L w w') (hG : ∀ g ∈ gp, g ∉ L) (hF : ∀ k, k < 2 → ∀ g ∈ fx k, g ∉ L) (hL : ∀ g ∈ L, W.heap.size ≤ g) : Own W w' x fx b gp P :=
  ⟨h.pair.keep hm hG hF, h.gd, h.newF, h.newG, h.mods.trans hm (fun k hk => .inr (hL k hk))⟩
theorem at_out {P : Pr} (h : Gd P) {s : Nat} (hs : s < 2) {i : Int} (hi : ¬ (0 ≤ i ∧ i < 12)) : P.sector s i = (4, 3) := by
  unfold Pr.sector
  have hb := h.blocks hs
  have e : (P.tab s).isB i = false := by
    unfold Tab.isB
    rw [hb, Bool.and_eq_false_iff]
    simp only [decide_eq_false_iff_not]
    omega
  rw [Tab.at_is e]
theorem read_out {P : Pr} (h : Gd P) {s : Nat} (hs : s < 2) {i : Int} (hi : ¬ (0 ≤ i ∧ i < 12)) : P.read s i = (⟨#[]⟩, 3) := by
  unfold Pr.read
  rw [at_out h hs hi]
  rfl
theorem write_out {P : Pr} (h : Gd P) {s : Nat} (hs : s < 2) {i : Int} (hi : ¬ (0 ≤ i ∧ i < 12)) (x : ByteArray) (k : Nat) : Pr.write (k + 1) P s i x = (3, P) := by
  unfold Pr.write
  rw [at_out h hs hi]
  rfl
theorem gWriteOut {W : World} {b : Nat} {gp : List Nat} {x : Nat → Nat} {fx : Nat → List Nat} {P : Pr} (hp : IsPair W b gp x fx P) (h : Gd P) {s : Nat} (hs : s < 2) {i : Int} (hi : ¬ (0 ≤ i ∧ i < 12)) (hc : Few P 900000) (img : ByteArray) :
    Calls Try.prog 20 #[.pointer (some ⟨b, 0, none⟩), .int .i64 (s : Nat), .int .i64 i, .string img] W fun e w' => ∃ gp' fx', e = .returned (.int .i64 3) ∧ Hid (PairTo W w' b gp gp' x fx fx' P) := by
  have hsp := h.spares hs
  have hc' : ∀ j, j < 2 → (P.dev j).cache.length + 2 * 5 + 10 < 1000000 := fun k hk => by have := hc k hk; omega
  have e := write_out h hs hi img 4
  rcases two_cases hs with rfl | rfl
  · have k := rWrite_0 hp i img (hsp.trans h.n.symm) 5 (by rw [hsp]; omega) hc'
    rw [e] at k; exact k
  · have k := rWrite_1 hp i img (hsp.trans h.n.symm) 5 (by rw [hsp]; omega) hc'
    rw [e] at k; exact k
theorem oReadOut {W w : World} {x : Nat → Nat} {fx : Nat → List Nat} {b : Nat} {gp : List Nat} {P : Pr} (h : Own W w x fx b gp P) {s : Nat} (hs : s < 2) {i : Int} (hc : Few P 900000) {v : ByteArray} {c : Nat} (hr : P.read s i = (v, c)) :
    Calls Try.prog 16 #[.pointer (some ⟨b, 0, none⟩), .int .i64 (s : Nat), .int .i64 i] w fun e w' => e = .returned (.tuple #[.string v, .int .i64 (c : Nat)]) ∧ Hid (Own W w' x fx b gp P) := by
  refine (gRead h.pair hs i hc).mono fun e w' ⟨h1, h2, h3⟩ => ?_
  rw [hr] at h1
  exact ⟨h1, h.same h2.out h3.out⟩
theorem read_fine {P : Pr} (h : Gd P) (hn : NoBad P) {s i : Nat} (hs : s < 2) (hi : i < 12) : ∃ v, P.read s (i : Int) = (v, 0) := by
  have h1 := read_ok h.pi hs (i := i) (by rw [h.blocks hs]; exact hi) (hn s hs _ (by omega))
  exact ⟨(P.read s (i : Int)).1, by rw [← h1]⟩
theorem oAlive {W w : World} {x : Nat → Nat} {fx : Nat → List Nat} {b : Nat} {gp : List Nat} {P : Pr} (h : Own W w x fx b gp P) {s : Nat} (hs : s < 2) :
    Calls Try.prog 30 #[.pointer (some ⟨b, 0, none⟩), .int .i64 (s : Nat)] w fun e w' => e = .returned (.bool true) ∧ w = w' := by
  have h1 := rAlive_s h.pair hs
  rw [(h.gd.pi.inv.dev s hs).q.gone] at h1
  exact h1
end Go.Proofs.Ytnpfhfgegjocoaa
namespace Go.Proofs.Ytnpfhfgegjocoaa
open Go.ChangeShapes Go.WideShapes Go.ChangeAt Go.RowKit

/-- What is asked of a shape and its spares. -/
def Cnd (a c n : Int) : Prop := Dev.right a c = true ∧ 0 ≤ n ∧ n ≤ 32 ∧ 2 ≤ a - 4 - n ∧ 8 + 2 * n ≤ c - 24
theorem cnd_blocks {a c n : Int} (h : Cnd a c n) : blocksI a c n = a - 4 - n := by
  obtain ⟨h1, h2, h3, h4, h5⟩ := h
  unfold blocksI
  rw [if_pos ⟨h1, h2, h3, h5, h4⟩]
theorem cnd_not {a c n : Int} (h : ¬ Cnd a c n) : blocksI a c n = 0 := by
  unfold blocksI
  rw [if_neg]
  rintro ⟨h1, h2, h3, h5, h4⟩
  exact h ⟨h1, h2, h3, h4, h5⟩
theorem right_bounds {a c : Int} (h : Dev.right a c = true) : 8 ≤ a ∧ a ≤ 4096 ∧ 128 ≤ c ∧ c ≤ 1024 := by
  unfold Dev.right at h
  simp only [Bool.and_eq_true, decide_eq_true_eq] at h
  omega
set_option maxRecDepth 100000 in
set_option maxHeartbeats 12800000 in
theorem remapShapes_walk (x0 x1 x2 side block : Int) (W : World) :
    Calls Try.prog 5 #[.agg #[.int .i64 x0, .int .i64 x1, .int .i64 x2], .int .i64 side, .int .i64 block] W fun e w' => e = .returned (.bool true) ∧ Mods [] W w' := by
  obtain ⟨N, hN⟩ : ∃ N, blocksI x0 x1 x2 = N := ⟨_, rfl⟩
  obtain ⟨wa, hwa⟩ : ∃ wa, (W.alloc (.cells #[.int .i64 x0, .int .i64 x1, .int .i64 x2] 59)).alloc (.cells #[.int .i64 x0, .int .i64 x1] 61) = wa := ⟨_, rfl⟩
  have hma : Mods [] W wa := by rw [← hwa]; exact ((Mods.refl _ _).alloc _).alloc _
  have hX : Blk wa W.heap.size 59 [.int .i64 x0, .int .i64 x1, .int .i64 x2] := by rw [← hwa]; exact (Blk.new W 59 _).alloc _
  have hS : Blk wa (W.heap.size + 1) 61 [.int .i64 x0, .int .i64 x1] := by rw [← hwa]; exact blkS W _ 61 _
  have HB : Hid (∀ w, Mods [] wa w → w.cell? ⟨W.heap.size, 0, none⟩ = some (.int .i64 x0) ∧ w.cell? ⟨W.heap.size, 1, none⟩ = some (.int .i64 x1) ∧ w.cell? ⟨W.heap.size, 2, none⟩ = some (.int .i64 x2) ∧ w.cell? ⟨W.heap.size + 1, 0, none⟩ = some (.int .i64 x0) ∧ w.cell? ⟨W.heap.size + 1, 1, none⟩ = some (.int .i64 x1)) := Lib.hid (fun w hm => by
    have h1 := hX.keep hm (by simp)
    have h2 := hS.keep hm (by simp)
    exact ⟨h1.cell (i := 0) rfl, h1.cell (i := 1) rfl, h1.cell (i := 2) rfl, h2.cell (i := 0) rfl, h2.cell (i := 1) rfl⟩)
  have HMA := Lib.hid hma
  have HN := Lib.hid hN
  have cRi := Lib.hid (fun W => dRight_any (W := W) x0 x1)
  clear hma hX hS hN
  go_enter Try.func5, Try.ntmps5
  go_upto_region 3 with fail
  obtain ⟨p0, p1, p2, p3, p4⟩ := HB.out wa (Mods.refl _ _)
  go_cut [66] from 31 to 65 (fun v wx => ((v = .bool true ∧ Cnd x0 x1 x2) ∨ (v = .bool false ∧ N = 0)) ∧ Hid (Mods [] wa wx))
  case first =>
    cases hR : Dev.right x0 x1 with
    | false =>
      rw [hR] at cRi
      go_wp2_with (go_at_call 24; refine (cRi.out _).mono ?_; rintro e w1 ⟨rfl, hm1⟩)
      go_meet
      exact ⟨.inr ⟨rfl, by rw [← HN.out]; exact cnd_not (fun h => by rw [h.1] at hR; cases hR)⟩, Lib.hid hm1⟩
    | true =>
      obtain ⟨r1, r2, r3, r4⟩ := right_bounds hR
      rw [hR] at cRi
      by_cases h1 : x2 < 0
      · have h1' : ¬ 0 ≤ x2 := by omega
        go_wp2_with (go_at_call 24; refine (cRi.out _).mono ?_; rintro e w1 ⟨rfl, hm1⟩; obtain ⟨q0, q1, q2, q3, q4⟩ := HB.out _ hm1)
        go_meet
        exact ⟨.inr ⟨rfl, by rw [← HN.out]; exact cnd_not (fun h => by have := h.2.1; omega)⟩, Lib.hid hm1⟩
      have h1' : 0 ≤ x2 := by omega
      by_cases h2 : 32 < x2
      · have h2' : ¬ x2 ≤ 32 := by omega
        go_wp2_with (go_at_call 24; refine (cRi.out _).mono ?_; rintro e w1 ⟨rfl, hm1⟩; obtain ⟨q0, q1, q2, q3, q4⟩ := HB.out _ hm1)
        go_meet
        exact ⟨.inr ⟨rfl, by rw [← HN.out]; exact cnd_not (fun h => by have := h.2.2.1; omega)⟩, Lib.hid hm1⟩
      have h2' : x2 ≤ 32 := by omega
      by_cases h3 : x0 - 4 - x2 < 2
      · have h3' : ¬ 2 ≤ x0 - 4 - x2 := by omega
        go_wp2_with (go_at_call 24; refine (cRi.out _).mono ?_; rintro e w1 ⟨rfl, hm1⟩; obtain ⟨q0, q1, q2, q3, q4⟩ := HB.out _ hm1)
        go_meet
        exact ⟨.inr ⟨rfl, by rw [← HN.out]; exact cnd_not (fun h => by have := h.2.2.2.1; omega)⟩, Lib.hid hm1⟩
      have h3' : 2 ≤ x0 - 4 - x2 := by omega
      by_cases h4 : x1 - 24 < 8 + 2 * x2
      · have h4' : ¬ 8 + 2 * x2 ≤ x1 - 24 := by omega
        go_wp2_with (go_at_call 24; refine (cRi.out _).mono ?_; rintro e w1 ⟨rfl, hm1⟩; obtain ⟨q0, q1, q2, q3, q4⟩ := HB.out _ hm1)
        go_meet
        exact ⟨.inr ⟨by first | rfl | exact congrArg Value.bool (decide_eq_false (by omega)), by rw [← HN.out]; exact cnd_not (fun h => by have := h.2.2.2.2; omega)⟩, Lib.hid hm1⟩
      have h4' : 8 + 2 * x2 ≤ x1 - 24 := by omega
      go_wp2_with (go_at_call 24; refine (cRi.out _).mono ?_; rintro e w1 ⟨rfl, hm1⟩; obtain ⟨q0, q1, q2, q3, q4⟩ := HB.out _ hm1)
      go_meet
      exact ⟨.inl ⟨rfl, hR, h1', h2', h3', h4'⟩, Lib.hid hm1⟩
  case rest =>
    clear p0 p1 p2 p3 p4 cRi
    obtain ⟨hO, HMx⟩ := hcut
    obtain ⟨p0, p1, p2, p3, p4⟩ := HB.out _ HMx.out
    go_upto_if 66 with fail
    go_cut [8] from 67 to 72 (fun v wx => v = .int .i64 N ∧ wx = wc)
    case first =>
      rcases hO with ⟨rfl, hC⟩ | ⟨rfl, h0⟩
      · have hNN : x0 - 4 - x2 = N := by rw [← HN.out, cnd_blocks hC]
        obtain ⟨r1, r2, r3, r4⟩ := right_bounds hC.1
        obtain ⟨_, c1, c2, _, _⟩ := hC
        go_wp2_with fail
        go_meet
        exact ⟨rfl, rfl⟩
      · subst h0
        go_wp2_with fail
        go_meet
        exact ⟨rfl, rfl⟩
    case rest =>
      clear p0 p1 p2 p3 p4 hO
      obtain ⟨rfl, rfl⟩ := hcut
      have cBl := Lib.hid (fun W => rBlocks_any (W := W) x0 x1 x2)
      rw [HN.out] at cBl
      clear HN
      go_upto_region 6 with (go_at_call 7; refine qFresh_any.mono ?_; rintro e w1 ⟨x, fx, b, gp, P, rfl, HF⟩)
      have HO0 := Lib.hid (HF.out.own)
      have HMF : Hid (Mods [] wa w1) := Lib.hid (HMx.out.trans HF.out.mods (by simp))
      have HBad := Lib.hid (show NoBad P from HF.out.bad)
      have HFw := Lib.hid (few0 HF.out.cache)
      clear HF
      go_upto_region 8 with (first | (go_at_call 8; refine qWakes_any.mono ?_; rintro e w2 ⟨rfl, hm2⟩; have HM2 := Lib.hid hm2; clear hm2; obtain ⟨p0, p1, p2, p3, p4⟩ := HB.out _ (HMF.out.trans HM2.out (by simp))) | (go_at_call 25; refine (cBl.out _).mono ?_; rintro e w3 ⟨rfl, hm3⟩; have HM3 := Lib.hid hm3; clear hm3))
      have HO3 := Lib.hid ((HO0.out.still HM2.out).still HM3.out)
      have cNw := Lib.hid (dNew_any (W := w3) 21 128 (by decide))
      clear p0 p1 p2 p3 p4 HB HMF HO0 HM2 HM3 cBl
      go_upto_region 9 with (go_at_call 26; refine cNw.out.mono ?_; rintro e w4 ⟨c, fc, rfl, HD, HM4, HFC⟩)
      have HO4 := Lib.hid (HO3.out.still HM4.out)
      have hne : x 0 ≠ c := fun e => by
        have h1 := (HO3.out.pair.dev 0 (by decide)).lt _ (HO3.out.pair.dev 0 (by decide)).head
        have h2 := HFC.out _ HD.out.head
        omega
      have hsec : (P.dev 0).sectors ≠ (Dev.new 21 128).sectors := by rw [HO3.out.gd.sec]; decide
      have cF1 := Lib.hid (fun (w : World) => rFormat_err (W := w) (p := some ⟨x 0, 0, none⟩) (q := some ⟨x 0, 0, none⟩) (n := 4) (c := 2) (by decide) ((rMade_same (W := w) (x 0) 4).mono fun e w' h => ⟨h.1, h.2 ▸ Mods.refl _ _⟩))
      have cF2 := Lib.hid (fun (w : World) (h : Mods [] w4 w) => rFormat_err (W := w) (p := some ⟨x 0, 0, none⟩) (q := some ⟨c, 0, none⟩) (n := 4) (c := 2) (by decide) (rMade_unlike ((HO4.out.still h).pair.dev 0 (by decide)) (HD.out.keep h (by simp)) hne hsec 4))
      have cF3 := Lib.hid (fun (w : World) => rFormat_err (W := w) (p := none) (q := some ⟨x 1, 0, none⟩) (n := 4) (c := 1) (by decide) ((rMade_nil (W := w) (some ⟨x 1, 0, none⟩) 4).mono fun e w' h => ⟨h.1, h.2 ▸ Mods.refl _ _⟩))
      clear HO3 cNw
      go_upto_region 10 with (go_at_call 27; refine (cF1.out _).mono ?_; rintro e w5 ⟨rfl, hm5⟩; have HM5 := Lib.hid hm5; clear hm5)
      go_upto_region 11 with (go_at_call 27; refine (cF2.out _ HM5.out).mono ?_; rintro e w6 ⟨rfl, hm6⟩; have HM6 := Lib.hid hm6; clear hm6)
      go_upto_region 12 with (go_at_call 27; refine (cF3.out _).mono ?_; rintro e w7 ⟨rfl, hm7⟩; have HM7 := Lib.hid hm7; clear hm7)
      have HM47 := Lib.hid ((HM5.out.trans HM6.out (by simp)).trans HM7.out (by simp))
      have HO7 := Lib.hid (HO4.out.still HM47.out)
      have HD7 := Lib.hid (HD.out.keep HM47.out (by simp))
      clear HM5 HM6 HM7 HM47 HO4 HM4 cF1 cF2 cF3
      go_upto_region 13 with (go_at_call 28; refine qDevices_any.mono ?_; rintro e w8 ⟨y, fy, rfl, HDv, HM8, HF8⟩)
      have cOp := Lib.hid (gOpenNew HDv.out)
      go_upto_region 14 with (go_at_call 18; refine cOp.out.mono ?_; rintro e w9 ⟨rfl, HM9⟩)
      have HL : Hid (∀ g ∈ fy 0 ++ fy 1, w7.heap.size ≤ g) := Lib.hid (fun g hg => by
        rcases List.mem_append.1 hg with hg | hg
        · exact HF8.out 0 (by decide) g hg
        · exact HF8.out 1 (by decide) g hg)
      have HO9 := Lib.hid ((HO7.out.still HM8.out).beside HM9.out (fun g hg hx => by have := HO7.out.pair.pb.lt g hg; have := HL.out g hx; omega) (fun k hk g hg hx => by have := (HO7.out.pair.dev k hk).lt g hg; have := HL.out g hx; omega) (fun g hg => Nat.le_trans HO7.out.mods.size (HL.out g hg)))
      have HD9 := Lib.hid ((HD7.out.keep HM8.out (by simp)).keep HM9.out (fun g hg hx => by have := HD7.out.lt g hg; have := HL.out g hx; omega))
      have cR1 := Lib.hid (rReplace_unlike HO9.out.pair HD9.out hsec.symm)
      have cR2 := Lib.hid (fun (w : World) (h : Mods [] w9 w) => rReplace_other (HO9.out.pair.keep0 h))
      have cR3 := Lib.hid (fun (w : World) => rReplace_nilD (W := w) b 1)
      clear HD7 HO7 HL HM8 HM9 HF8 HDv HD HFC cOp hne hsec
      go_upto_region 16 with (first | (go_at_call 29; have zz := HM11; clear zz; refine (cR3.out _).mono ?_; rintro e w' ⟨rfl, rfl⟩) | (go_at_call 29; have zz := HM10; clear zz; refine (cR2.out _ HM10.out).mono ?_; rintro e w11 ⟨rfl, HM11⟩) | (go_at_call 29; refine cR1.out.mono ?_; rintro e w10 ⟨rfl, HM10⟩))
      have HO11 := Lib.hid ((HO9.out.still HM10.out).still HM11.out)
      clear HO9 HD9 cR1 cR2 cR3 HM10 HM11
      have nRd := Lib.hid (fun (w : World) => show Calls Try.prog 16 #[.pointer none, .int .i64 0, .int .i64 0] w fun e w' => e = .returned (.tuple #[.string ⟨#[]⟩, .int .i64 1]) ∧ w = w' from rRead_bars (bars_nil 0) 0)
      have nWr := Lib.hid (fun (w : World) => show Calls Try.prog 20 #[.pointer none, .int .i64 0, .int .i64 0, .string ⟨#[]⟩] w fun e w' => e = .returned (.int .i64 1) ∧ w = w' from rWrite_bars (bars_nil 0) 0 _)
      have nMv := Lib.hid (fun (w : World) => show Calls Try.prog 12 #[.pointer none, .int .i64 0, .int .i64 0] w fun e w' => e = .returned (.int .i64 1) ∧ w = w' from rMove_bars (bars_nil 0) 0)
      have nFl := Lib.hid (fun (w : World) => show Calls Try.prog 17 #[.pointer none, .int .i64 0] w fun e w' => e = .returned (.int .i64 1) ∧ w = w' from rFlush_bars (bars_nil 0))
      have nAl := Lib.hid (fun (w : World) => rAlive_none (W := w) (p := .pointer none) (s := 0) (fun W => rDevice_nil 0))
      have nBl := Lib.hid (fun (w : World) => show Calls Try.prog 31 #[.agg #[.int .i64 0, .int .i64 0, .slice none 0 0]] w fun e w' => e = .returned (.int .i64 0) ∧ Mods [] w w' from tBlocks_any ⟨0, 0, []⟩ (.slice none 0 0))
      go_upto_region 20 with (first
        | (go_at_call 16; refine (nRd.out _).mono ?_; rintro e w' ⟨rfl, rfl⟩)
        | (go_at_call 20; refine (nWr.out _).mono ?_; rintro e w' ⟨rfl, rfl⟩)
        | (go_at_call 12; refine (nMv.out _).mono ?_; rintro e w' ⟨rfl, rfl⟩)
        | (go_at_call 17; refine (nFl.out _).mono ?_; rintro e w' ⟨rfl, rfl⟩)
        | (go_at_call 14; refine (rDevice_nil 0).mono ?_; rintro e w' ⟨rfl, rfl⟩)
        | (go_at_call 30; refine (nAl.out _).mono ?_; rintro e w' ⟨rfl, rfl⟩)
        | (go_at_call 10; refine (rTable_nil 0).mono ?_; rintro e w12 ⟨rfl, hm12⟩; have HM12 := Lib.hid hm12; clear hm12)
        | (go_at_call 31; refine (nBl.out _).mono ?_; rintro e w13 ⟨rfl, hm13⟩; have HM13 := Lib.hid hm13; clear hm13)
        | (go_at_call 29; refine (rReplace_nil 0 _).mono ?_; rintro e w' ⟨rfl, rfl⟩))
      have HO := Lib.hid ((HO11.out.still HM12.out).still HM13.out)
      clear HO11 HM12 HM13 nRd nWr nMv nFl nAl nBl
      by_cases hs : 0 ≤ side ∧ side < 2
      · obtain ⟨s, hs2, rfl⟩ : ∃ s : Nat, s < 2 ∧ side = (s : Int) := ⟨side.toNat, by omega, by omega⟩
        clear hs
        have cDv := Lib.hid (fun (w : World) (fx' : Nat → List Nat) (gp' : List Nat) (P' : Pr) (h : Own wc w x fx' b gp' P') => rDevice_s h.pair hs2)
        have cAl := Lib.hid (fun (w : World) (fx' : Nat → List Nat) (gp' : List Nat) (P' : Pr) (h : Own wc w x fx' b gp' P') => oAlive h hs2)
        by_cases hi : 0 ≤ block ∧ block < 12
        · obtain ⟨i, hi2, rfl⟩ : ∃ i : Nat, i < 12 ∧ block = (i : Int) := ⟨block.toNat, by omega, by omega⟩
          clear hi
          obtain ⟨v, hv⟩ := read_fine HO.out.gd HBad.out hs2 hi2
          have cRd := Lib.hid (oReadOut HO.out hs2 (HFw.out.mono (by decide)) hv)
          have cWr := Lib.hid (fun (w : World) (z : ByteArray) (hz : z.size = 128) (h : Own wc w x fx b gp P) => gWriteOk h.pair h.gd hs2 hi2 (HFw.out.mono (by decide)) hz HBad.out)
          clear hv
          go_wp2_with (first | (go_at_call 16; refine cRd.out.mono ?_; rintro e w14 ⟨rfl, HO14⟩) | (go_at_call 9; refine (qFull_any (W := _) ⟨#[]⟩ (by decide)).mono ?_; rintro e w15 ⟨z, rfl, _, hz, HM15⟩) | (go_at_call 20; refine (cWr.out _ _ hz (HO14.out.still HM15.out)).mono ?_; rintro e w16 ⟨P', gp', fx', rfl, HP, HG, _, _, _, _⟩; have HO16 := Lib.hid ((HO14.out.still HM15.out).to HP.out HG.out)) | (go_at_call 14; refine (cDv.out _ _ _ _ HO16.out).mono ?_; rintro e w' ⟨rfl, rfl⟩) | (go_at_call 30; refine (cAl.out _ _ _ _ HO16.out).mono ?_; rintro e w' ⟨rfl, rfl⟩))
          go_ret
          exact ⟨rfl, (HMA.out.trans HMx.out (by simp)).trans (HO16.out).mods (by simp)⟩
        · have cRd := Lib.hid (oReadOut HO.out hs2 (HFw.out.mono (by decide)) (read_out HO.out.gd hs2 hi))
          have cWr := Lib.hid (fun (w : World) (z : ByteArray) (h : Own wc w x fx b gp P) => gWriteOut h.pair h.gd hs2 hi (HFw.out.mono (by decide)) z)
          have hbb : block < 0 ∨ (¬ block < 0 ∧ 12 ≤ block) := by omega
          rcases hbb with hbb | ⟨hb1, hbb⟩
          · go_wp2_with (first | (go_at_call 16; refine cRd.out.mono ?_; rintro e w14 ⟨rfl, HO14⟩) | (go_at_call 9; refine (qFull_any (W := _) ⟨#[]⟩ (by decide)).mono ?_; rintro e w15 ⟨z, rfl, _, hz, HM15⟩) | (go_at_call 20; refine (cWr.out _ _ (HO14.out.still HM15.out)).mono ?_; rintro e w16 ⟨gp', fx', rfl, HP⟩; have HO16 := Lib.hid ((HO14.out.still HM15.out).to HP.out HO.out.gd)) | (go_at_call 14; refine (cDv.out _ _ _ _ HO16.out).mono ?_; rintro e w' ⟨rfl, rfl⟩) | (go_at_call 30; refine (cAl.out _ _ _ _ HO16.out).mono ?_; rintro e w' ⟨rfl, rfl⟩))
            go_ret
            exact ⟨rfl, (HMA.out.trans HMx.out (by simp)).trans (HO16.out).mods (by simp)⟩
          · go_wp2_with (first | (go_at_call 16; refine cRd.out.mono ?_; rintro e w14 ⟨rfl, HO14⟩) | (go_at_call 9; refine (qFull_any (W := _) ⟨#[]⟩ (by decide)).mono ?_; rintro e w15 ⟨z, rfl, _, hz, HM15⟩) | (go_at_call 20; refine (cWr.out _ _ (HO14.out.still HM15.out)).mono ?_; rintro e w16 ⟨gp', fx', rfl, HP⟩; have HO16 := Lib.hid ((HO14.out.still HM15.out).to HP.out HO.out.gd)) | (go_at_call 14; refine (cDv.out _ _ _ _ HO16.out).mono ?_; rintro e w' ⟨rfl, rfl⟩) | (go_at_call 30; refine (cAl.out _ _ _ _ HO16.out).mono ?_; rintro e w' ⟨rfl, rfl⟩))
            go_ret
            exact ⟨rfl, (HMA.out.trans HMx.out (by simp)).trans (HO16.out).mods (by simp)⟩
      · have cRd := Lib.hid (fun (w : World) => rRead_bars (W := w) (bars_side b hs) block)
        have cWr := Lib.hid (fun (w : World) (z : ByteArray) => rWrite_bars (W := w) (bars_side b hs) block z)
        have cDv := Lib.hid (fun (w : World) => rDevice_side (W := w) b hs)
        have cAl := Lib.hid (fun (w : World) => rAlive_none (W := w) (fun W => rDevice_side (W := W) b hs))
        have hbb : side < 0 ∨ (¬ side < 0 ∧ 1 < side) := by omega
        clear hs
        rcases hbb with hbb | ⟨hb1, hbb⟩
        · go_wp2_with (first | (go_at_call 16; refine (cRd.out _).mono ?_; rintro e w' ⟨rfl, rfl⟩) | (go_at_call 9; refine (qFull_any (W := _) ⟨#[]⟩ (by decide)).mono ?_; rintro e w15 ⟨z, rfl, _, hz, HM15⟩) | (go_at_call 20; refine (cWr.out _ _).mono ?_; rintro e w' ⟨rfl, rfl⟩) | (go_at_call 14; refine (cDv.out _).mono ?_; rintro e w' ⟨rfl, rfl⟩) | (go_at_call 30; refine (cAl.out _).mono ?_; rintro e w' ⟨rfl, rfl⟩))
          go_ret
          exact ⟨rfl, (HMA.out.trans HMx.out (by simp)).trans (HO.out.still HM15.out).mods (by simp)⟩
        · go_wp2_with (first | (go_at_call 16; refine (cRd.out _).mono ?_; rintro e w' ⟨rfl, rfl⟩) | (go_at_call 9; refine (qFull_any (W := _) ⟨#[]⟩ (by decide)).mono ?_; rintro e w15 ⟨z, rfl, _, hz, HM15⟩) | (go_at_call 20; refine (cWr.out _ _).mono ?_; rintro e w' ⟨rfl, rfl⟩) | (go_at_call 14; refine (cDv.out _).mono ?_; rintro e w' ⟨rfl, rfl⟩) | (go_at_call 30; refine (cAl.out _).mono ?_; rintro e w' ⟨rfl, rfl⟩))
          go_ret
          exact ⟨rfl, (HMA.out.trans HMx.out (by simp)).trans (HO.out.still HM15.out).mods (by simp)⟩
theorem readables_remapShapes : ∀ t ∈ (#[59, 3, 3] : Array TypeId).toList, Try.prog.readableRec t = true ∧ t < Try.prog.types.size := by
  intro t ht
  simp only [List.mem_cons, List.not_mem_nil, or_false] at ht
  rcases ht with rfl | rfl | rfl
  all_goals exact ⟨by kernel_rfl, of_decide_eq_true (by kernel_rfl)⟩

set_option maxRecDepth 100000 in
theorem remapShapes_contract (H : Type) (enc : TypeId × Value → H) (W : World) (base : Nat) (args : Array Value) (ds gs : List (DataW H)) (before : List MemPlace)
    (hval : ∀ (j : Nat) t v, Try.f5.params[j]? = some t → args[j]? = some v → Value.okWide Try.prog W .any base t v)
    (hW : DataW.Whole enc Try.prog Try.f5.params.toList Rows.remapShapesSpec.vars false W args.toList ds gs before) :
    Calls Try.prog 5 args W fun e W' => ∃ v, e = .returned v ∧ Rows.remapShapesSpec.post enc Try.prog Try.f5 false true false false W args v W' := by
  have hW' := hW
  obtain ⟨p, q, hA0, hV, he, hfz, hnd⟩ := hW
  have hA : DataW.TrodAll enc Try.prog W 0 (fun _ => true) true Try.f5.params.toList args.toList ds p := hA0
  rw [Try.params5] at hA hval
  obtain ⟨v0, vs0, d0, ds0, p0, q0, hargs, rfl, rfl, h0, r0⟩ := trodAll_cons hA
  obtain ⟨v1, vs1, d1, ds1, p1, q1, rfl, rfl, rfl, h1, r1⟩ := trodAll_cons r0
  obtain ⟨v2, vs2, d2, ds2, p2, q2, rfl, rfl, rfl, h2, r2⟩ := trodAll_cons r1
  obtain ⟨rfl, rfl, rfl⟩ := trodAll_nil r2
  obtain rfl : args = #[v0, v1, v2] := by cases args; simp_all
  obtain ⟨x0, x1, x2, rfl, rfl, rfl, wx0, wx1, wx2⟩ := arr3_open Try.underlying59 Try.underlying3 (by kernel_rfl) (by kernel_rfl) (hval 0 59 v0 rfl rfl) h0
  obtain ⟨side, rfl, rfl, rfl, wside⟩ := open_int Try.underlying3 (hval 1 3 v1 rfl rfl) h1
  obtain ⟨block, rfl, rfl, rfl, wblock⟩ := open_int Try.underlying3 (hval 2 3 v2 rfl rfl) h2
  refine (remapShapes_walk x0 x1 x2 side block W).mono fun e W' ⟨he', hm⟩ => ?_
  subst he'
  exact ⟨_, rfl, post_law laidOut (by rw [Try.params5]; exact readables_remapShapes) (by rfl) Try.underlying4 rfl rfl hW' hm.below⟩

set_option maxRecDepth 100000 in
theorem remapShapes_lifted (os : Os) (started : os.Started) (H : Type) (enc : TypeId × Value → H) :
    ReturnsInHanded {} Try.checked os 5 .any (Rows.remapShapesSpec.pre6 enc Try.prog Try.f5 Rows.remapShapesRow.domain false) (Rows.remapShapesSpec.post enc Try.prog Try.f5 false true false false) := by
  refine returnsInHanded_of_change (C := Try.checked) own started (by kernel_rfl) Try.func5
    (ChangeSpec.witness6 (enc := enc) (C := Try.checked) false ⟨#[], #[.agg #[.int .i64 0, .int .i64 0, .int .i64 0], .int .i64 0, .int .i64 0], []⟩ 8 (by kernel_rfl) (by kernel_rfl) (by kernel_rfl) (by kernel_rfl)) ?_
  intro W base args ds gs before hval hW _ _
  exact remapShapes_contract H enc W base args ds gs before hval hW

/-- The law. -/
theorem remapShapes_said : Rows.RemapShapesSaid :=
  OpenClaim.holds_of_wide 5 Try.f5 rfl rfl rfl rfl rfl rfl rfl ⟨rfl, rfl, rfl, rfl, rfl⟩ rfl rfl rfl rfl rfl (by kernel_rfl) Try.func5 (by kernel_rfl)
    (of_decide_eq_true (by kernel_rfl)) (by unfold Func.isWrapper; first | (rw [if_pos (by decide +kernel)]; kernel_rfl) | (rw [if_neg (by decide +kernel)]; exact ⟨rfl, rfl⟩))
    (fun os started H enc _ => remapShapes_lifted os started H enc)
end Go.Proofs.Ytnpfhfgegjocoaa
