/- The walks of layer 10's reference, first half: out, begin, Use, Give, Step, May. -/
import Derived.Test.YtahaecieklfhkaaDoorBits8
import Derived.Test.YtahaecieklfhkaaDoorSpace5
namespace Go.Proofs.YtahaecieklfhkaaDoor
open Go.RowKit

/-- A block whose first cells are a list of bools. -/
def Lst (w : World) (g : Nat) (l : List Bool) : Prop := ∃ r, Blk w g 4 (boolsOf l ++ r)
theorem Lst.keep {w w1 : World} {g : Nat} {l : List Bool} (h : Lst w g l) {L : List Nat} (hm : Mods L w w1) (hn : g ∉ L) : Lst w1 g l := by obtain ⟨r, h⟩ := h; exact ⟨r, h.keep hm hn⟩
theorem Lst.lt {w : World} {g : Nat} {l : List Bool} (h : Lst w g l) : g < w.heap.size := by obtain ⟨r, h⟩ := h; exact h.lt
theorem Lst.cell {w : World} {g : Nat} {l : List Bool} (h : Lst w g l) {k : Nat} (hk : k < l.length) : w.cell? ⟨g, k, none⟩ = some (.bool (mem l k)) := by
  obtain ⟨r, h⟩ := h
  refine h.cell ?_
  rw [List.getElem?_append_left (by simpa [boolsOf] using hk)]
  exact boolsOf_get hk
theorem Lst.free {w : World} {g : Nat} {l : List Bool} (h : Lst w g l) (k : Nat) : w.frozen? ⟨g, k, none⟩ = false := by obtain ⟨r, h⟩ := h; exact h.free k
theorem Lst.set {w : World} {g : Nat} {l : List Bool} (h : Lst w g l) {k : Nat} (hk : k < l.length) (x : Bool) : Lst (w.setCell ⟨g, k, none⟩ (.bool x)) g (setI l (k : Int) x) := by
  obtain ⟨r, h⟩ := h
  refine ⟨r, ?_⟩
  have h1 := h.set k (.bool x)
  have hi : inB (l.length : Int) (k : Int) = true := by simp [inB]; omega
  have e : (boolsOf l ++ r).set k (.bool x) = boolsOf (setI l (k : Int) x) ++ r := by
    unfold setI
    rw [if_pos hi, Int.toNat_natCast, List.set_append, if_pos (by simpa [boolsOf] using hk)]
    unfold boolsOf
    rw [List.map_set]
  rw [e] at h1
  exact h1

/-- The reference's space lies at block b, in the blocks fp; its lists are n long. -/
def IsRef (w : World) (b : Nat) (fp : List Nat) (S : Sp) (n : Nat) : Prop :=
  ∃ bu bt bg cu ct cg, fp = [b, bu, bt, bg] ∧ fp.Nodup ∧ Blk w b 74 [.slice (some ⟨bu, 0, none⟩) n cu, .slice (some ⟨bt, 0, none⟩) n ct, .slice (some ⟨bg, 0, none⟩) n cg, .int .i64 S.first, .int .u64 S.gen, .int .u64 S.last] ∧
    Lst w bu S.used ∧ Lst w bt S.taken ∧ Lst w bg S.given ∧ S.used.length = n ∧ S.taken.length = n ∧ S.given.length = n ∧ n ≤ 4096
theorem IsRef.keep {w w1 : World} {b n : Nat} {fp : List Nat} {S : Sp} (h : IsRef w b fp S n) {L : List Nat} (hm : Mods L w w1) (hd : ∀ k ∈ fp, k ∉ L) : IsRef w1 b fp S n := by
  obtain ⟨bu, bt, bg, cu, ct, cg, rfl, h0, h1, h2, h3, h4, h5⟩ := h
  exact ⟨bu, bt, bg, cu, ct, cg, rfl, h0, h1.keep hm (hd _ (by simp)), h2.keep hm (hd _ (by simp)), h3.keep hm (hd _ (by simp)), h4.keep hm (hd _ (by simp)), h5⟩
theorem IsRef.lt {w : World} {b n : Nat} {fp : List Nat} {S : Sp} (h : IsRef w b fp S n) : ∀ k ∈ fp, k < w.heap.size := by
  obtain ⟨bu, bt, bg, cu, ct, cg, rfl, h0, h1, h2, h3, h4, h5⟩ := h
  intro k hk
  have := h1.lt; have := h2.lt; have := h3.lt; have := h4.lt
  simp only [List.mem_cons, List.not_mem_nil, or_false] at hk
  rcases hk with rfl | rfl | rfl | rfl <;> omega
theorem IsRef.drewN {w : World} {b n : Nat} {fp : List Nat} {S : Sp} (h : IsRef w b fp S n) (q : Nat) : IsRef (w.drewN q) b fp S n := h

set_option maxHeartbeats 400000 in
theorem rOut_any {w : World} {b n : Nat} {fp : List Nat} {S : Sp} (h : IsRef w b fp S n) (k : Int) :
    Calls Tryd.prog 53 #[.pointer (some ⟨b, 0, none⟩), .int .i64 k] w fun e w' => e = .returned (.bool (decide (S.chk k = 3))) ∧ w = w' := by
  obtain ⟨bu, bt, bg, cu, ct, cg, rfl, h0, h1, h2, h3, h4, h5, _⟩ := h
  have c0 := h1.cell (i := 0) rfl
  have c3 := h1.cell (i := 3) rfl
  have hch : decide (S.chk k = 3) = (decide (k < (S.first : Int)) || decide ((n : Int) ≤ k)) := by
    unfold Sp.chk; rw [h5]
    by_cases a : k < (S.first : Int) <;> by_cases c : (n : Int) ≤ k <;> simp [a, c]
  rw [hch]
  clear h0 h1 h2 h3 h4 h5 hch
  by_cases a : k < (S.first : Int)
  · have hd : decide (k < (S.first : Int)) = true := by simpa using a
    go_enter Tryd.func53, Tryd.ntmps53
    go_wp2
    go_ret
    exact ⟨by simp [a], rfl⟩
  · have hd : decide (k < (S.first : Int)) = false := by simpa using a
    go_enter Tryd.func53, Tryd.ntmps53
    go_wp2
    go_ret
    exact ⟨by simp, rfl⟩

theorem rused_upd {w w1 : World} {b n bu bt bg cu ct cg : Nat} {S : Sp} {l : List Bool} (h0 : [b, bu, bt, bg].Nodup) (h1 : Blk w b 74 [.slice (some ⟨bu, 0, none⟩) n cu, .slice (some ⟨bt, 0, none⟩) n ct, .slice (some ⟨bg, 0, none⟩) n cg, .int .i64 S.first, .int .u64 S.gen, .int .u64 S.last])
    (h3 : Lst w bt S.taken) (h4 : Lst w bg S.given) (h5 : S.used.length = n ∧ S.taken.length = n ∧ S.given.length = n ∧ n ≤ 4096) (hm : Mods [bu] w w1) (h2 : Lst w1 bu l) (hl : l.length = n) : IsRef w1 b [b, bu, bt, bg] { S with used := l } n := by
  have hn := h0
  simp only [List.nodup_cons, List.mem_cons, List.not_mem_nil, or_false, not_or, List.nodup_nil, and_true, not_false_eq_true] at hn
  exact ⟨bu, bt, bg, cu, ct, cg, rfl, h0, h1.keep hm (by simp; omega), h2, h3.keep hm (by simp; omega), h4.keep hm (by simp; omega), hl, h5.2.1, h5.2.2⟩
theorem rgiven_upd {w w1 : World} {b n bu bt bg cu ct cg : Nat} {S : Sp} {l : List Bool} (h0 : [b, bu, bt, bg].Nodup) (h1 : Blk w b 74 [.slice (some ⟨bu, 0, none⟩) n cu, .slice (some ⟨bt, 0, none⟩) n ct, .slice (some ⟨bg, 0, none⟩) n cg, .int .i64 S.first, .int .u64 S.gen, .int .u64 S.last])
    (h2 : Lst w bu S.used) (h3 : Lst w bt S.taken) (h5 : S.used.length = n ∧ S.taken.length = n ∧ S.given.length = n ∧ n ≤ 4096) (hm : Mods [bg] w w1) (h4 : Lst w1 bg l) (hl : l.length = n) : IsRef w1 b [b, bu, bt, bg] { S with given := l } n := by
  have hn := h0
  simp only [List.nodup_cons, List.mem_cons, List.not_mem_nil, or_false, not_or, List.nodup_nil, and_true, not_false_eq_true] at hn
  exact ⟨bu, bt, bg, cu, ct, cg, rfl, h0, h1.keep hm (by simp; omega), h2.keep hm (by simp; omega), h3.keep hm (by simp; omega), h4, h5.1, h5.2.1, hl, h5.2.2.2⟩

theorem chk_in {S : Sp} {k : Int} (h : S.chk k = 0) : ∃ j : Nat, k = j ∧ j < S.used.length := by
  unfold Sp.chk at h
  split at h
  · cases h
  · exact ⟨k.toNat, by omega, by omega⟩

set_option maxHeartbeats 800000 in
theorem rUse_any {w : World} {b n : Nat} {fp : List Nat} {S : Sp} (h : IsRef w b fp S n) (k : Int) :
    Calls Tryd.prog 37 #[.pointer (some ⟨b, 0, none⟩), .int .i64 k] w fun e w' => e = .returned (.int .i64 (S.useE k)) ∧ Mods fp w w' ∧ IsRef w' b fp (S.useS k) n := by
  have hS := Lib.hid h
  have ho := Lib.hid (rOut_any h k)
  obtain ⟨bu, bt, bg, cu, ct, cg, rfl, h0, h1, h2, h3, h4, h5⟩ := h
  rcases S.chk_cases k with hc | hc
  · obtain ⟨j, rfl, hj⟩ := chk_in hc
    have c0 := h1.cell (i := 0) rfl
    have cj := h2.cell hj
    have fj := h2.free j
    have hjn : j < n := by have := h5.1; omega
    have HF : Hid (IsRef (w.setCell ⟨bu, j, none⟩ (.bool true)) b [b, bu, bt, bg] { S with used := setI S.used j true } n) :=
      rused_upd h0 h1 h3 h4 h5 ((Mods.refl _ _).setCell (.inl (by simp)) _) (h2.set hj true) (by rw [setI_length]; exact h5.1)
    have HE : Hid (S.useE j = if mem S.used j then 19 else 0) := by unfold Hid Sp.useE; rw [if_pos hc, memI_nat]
    have HS2 : Hid (S.useS j = { S with used := setI S.used j true }) := by unfold Hid Sp.useS; rw [if_pos hc]
    have HSame : Hid (mem S.used j = true → setI S.used j true = S.used) := fun he => by
      unfold setI
      rw [if_pos (by simp [inB]; omega), Int.toNat_natCast]
      exact set_same true he hj
    have hd : decide (S.chk (j : Int) = 3) = false := by rw [hc]; rfl
    rw [hd] at ho
    clear h0 h1 h2 h3 h4 h5 hc hd
    obtain ⟨x, hx⟩ : ∃ x, mem S.used j = x := ⟨_, rfl⟩
    rw [hx] at cj
    have HX := Lib.hid hx
    clear hx
    cases x with
    | true =>
      go_enter Tryd.func37, Tryd.ntmps37
      go_wp2_with fail
      refine ho.out.mono ?_
      rintro e w' ⟨rfl, rfl⟩
      go_wp2_with fail
      go_ret
      refine ⟨by rw [HE.out, HX.out]; rfl, Mods.refl _ _, ?_⟩
      rw [HS2.out, HSame.out HX.out]; exact hS.out
    | false =>
      go_enter Tryd.func37, Tryd.ntmps37
      go_wp2_with fail
      refine ho.out.mono ?_
      rintro e w' ⟨rfl, rfl⟩
      go_wp2_with fail
      go_ret
      refine ⟨by rw [HE.out, HX.out]; rfl, (Mods.refl _ _).setCell (.inl (by simp)) _, ?_⟩
      rw [HS2.out]; exact HF.out
  · have hd : decide (S.chk k = 3) = true := by rw [hc]; rfl
    rw [hd] at ho
    have HE : Hid (S.useE k = 3) := by unfold Hid Sp.useE; rw [if_neg (by rw [hc]; decide), hc]
    have HS2 : Hid (S.useS k = S) := by unfold Hid Sp.useS; rw [if_neg (by rw [hc]; decide)]
    clear h0 h1 h2 h3 h4 h5 hc hd
    go_enter Tryd.func37, Tryd.ntmps37
    go_wp2_with fail
    refine ho.out.mono ?_
    rintro e w' ⟨rfl, rfl⟩
    go_wp2_with fail
    go_ret
    exact ⟨by rw [HE.out]; rfl, Mods.refl _ _, by rw [HS2.out]; exact hS.out⟩

set_option maxHeartbeats 800000 in
theorem rGive_any {w : World} {b n : Nat} {fp : List Nat} {S : Sp} (h : IsRef w b fp S n) (k : Int) :
    Calls Tryd.prog 35 #[.pointer (some ⟨b, 0, none⟩), .int .i64 k] w fun e w' => e = .returned (.int .i64 (S.giveE k)) ∧ Mods fp w w' ∧ IsRef w' b fp (S.giveS k) n := by
  have hS := Lib.hid h
  have ho := Lib.hid (rOut_any h k)
  obtain ⟨bu, bt, bg, cu, ct, cg, rfl, h0, h1, h2, h3, h4, h5⟩ := h
  rcases S.chk_cases k with hc | hc
  · obtain ⟨j, rfl, hj⟩ := chk_in hc
    have c0 := h1.cell (i := 0) rfl
    have c2 := h1.cell (i := 2) rfl
    have hjg : j < S.given.length := by omega
    have cj := h2.cell hj
    have gj := h4.cell hjg
    have fj := h4.free j
    have hjn : j < n := by have := h5.1; omega
    have HF : Hid (IsRef (w.setCell ⟨bg, j, none⟩ (.bool true)) b [b, bu, bt, bg] { S with given := setI S.given j true } n) :=
      rgiven_upd h0 h1 h2 h3 h5 ((Mods.refl _ _).setCell (.inl (by simp)) _) (h4.set hjg true) (by rw [setI_length]; exact h5.2.2.1)
    have HE : Hid (S.giveE j = if mem S.used j then (if mem S.given j then 19 else 0) else 15) := by unfold Hid Sp.giveE; rw [if_pos hc, memI_nat, memI_nat]
    have HS2 : Hid (S.giveS j = if mem S.used j then { S with given := setI S.given j true } else S) := by unfold Hid Sp.giveS; rw [if_pos hc, memI_nat]
    have HSame : Hid (mem S.given j = true → setI S.given j true = S.given) := fun he => by
      unfold setI
      rw [if_pos (by simp [inB]; omega), Int.toNat_natCast]
      exact set_same true he hjg
    have hd : decide (S.chk (j : Int) = 3) = false := by rw [hc]; rfl
    rw [hd] at ho
    clear h0 h1 h2 h3 h4 h5 hc hd
    obtain ⟨x, hx⟩ : ∃ x, mem S.used j = x := ⟨_, rfl⟩
    obtain ⟨y, hy⟩ : ∃ y, mem S.given j = y := ⟨_, rfl⟩
    rw [hx] at cj
    rw [hy] at gj
    have HX := Lib.hid hx
    have HY := Lib.hid hy
    clear hx hy
    cases x with
    | false =>
      go_enter Tryd.func35, Tryd.ntmps35
      go_wp2_with fail
      refine ho.out.mono ?_
      rintro e w' ⟨rfl, rfl⟩
      go_wp2_with fail
      go_ret
      refine ⟨by rw [HE.out, HX.out]; rfl, Mods.refl _ _, ?_⟩
      rw [HS2.out, HX.out]; exact hS.out
    | true =>
      cases y with
      | true =>
        go_enter Tryd.func35, Tryd.ntmps35
        go_wp2_with fail
        refine ho.out.mono ?_
        rintro e w' ⟨rfl, rfl⟩
        go_wp2_with fail
        go_ret
        refine ⟨by rw [HE.out, HX.out, HY.out]; rfl, Mods.refl _ _, ?_⟩
        rw [HS2.out, HX.out, HSame.out HY.out]; exact hS.out
      | false =>
        go_enter Tryd.func35, Tryd.ntmps35
        go_wp2_with fail
        refine ho.out.mono ?_
        rintro e w' ⟨rfl, rfl⟩
        go_wp2_with fail
        go_ret
        refine ⟨by rw [HE.out, HX.out, HY.out]; rfl, (Mods.refl _ _).setCell (.inl (by simp)) _, ?_⟩
        rw [HS2.out, HX.out]; exact HF.out
  · have hd : decide (S.chk k = 3) = true := by rw [hc]; rfl
    rw [hd] at ho
    have HE : Hid (S.giveE k = 3) := by unfold Hid Sp.giveE; rw [if_neg (by rw [hc]; decide), hc]
    have HS2 : Hid (S.giveS k = S) := by unfold Hid Sp.giveS; rw [if_neg (by rw [hc]; decide)]
    clear h0 h1 h2 h3 h4 h5 hc hd
    go_enter Tryd.func35, Tryd.ntmps35
    go_wp2_with fail
    refine ho.out.mono ?_
    rintro e w' ⟨rfl, rfl⟩
    go_wp2_with fail
    go_ret
    exact ⟨by rw [HE.out]; rfl, Mods.refl _ _, by rw [HS2.out]; exact hS.out⟩

set_option maxHeartbeats 800000 in
theorem rStep_any {w : World} {b n : Nat} {fp : List Nat} {S : Sp} (h : IsRef w b fp S n) (hg : S.gen < 18446744073709551616) (hl : S.last < 18446744073709551616) :
    Calls Tryd.prog 40 #[.pointer (some ⟨b, 0, none⟩)] w fun e w' => e = .returned (.tuple #[.int .u64 (S.stepG : Nat), .int .i64 S.stepE]) ∧ Mods fp w w' ∧ IsRef w' b fp S.step n := by
  have hS := Lib.hid h
  obtain ⟨bu, bt, bg, cu, ct, cg, rfl, h0, h1, h2, h3, h4, h5⟩ := h
  have c4 := h1.cell (i := 4) rfl
  have c5 := h1.cell (i := 5) rfl
  have f4 := h1.free 4
  by_cases hle : S.last ≤ S.gen
  · have HE : Hid (S.stepG = 0 ∧ S.stepE = 12 ∧ S.step = S) := ⟨by rw [Sp.stepG, if_pos hle], by rw [Sp.stepE, if_pos hle], by rw [Sp.step, if_pos hle]⟩
    have hd : decide (S.last ≤ S.gen) = true := by simpa using hle
    clear h0 h1 h2 h3 h4 h5
    go_enter Tryd.func40, Tryd.ntmps40
    go_wp2_with fail
    go_quiet (fail)
    go_wp2_with fail
    go_ret2
    exact ⟨by rw [HE.out.1, HE.out.2.1]; rfl, (Mods.refl _ _).drewN _, by rw [HE.out.2.2]; exact hS.out.drewN _⟩
  · have HE : Hid (S.stepG = S.gen + 1 ∧ S.stepE = 0 ∧ S.step = { S with gen := S.gen + 1 }) := ⟨by rw [Sp.stepG, if_neg hle], by rw [Sp.stepE, if_neg hle], by rw [Sp.step, if_neg hle]⟩
    have hd : decide (S.last ≤ S.gen) = false := by simpa using hle
    obtain ⟨g, hgg⟩ : ∃ g, S.gen + 1 = g := ⟨_, rfl⟩
    have e1 : IntKind.u64.wrap ((S.gen : Int) + 1) = (g : Int) := by rw [IntKind.wrap_u64]; omega
    rw [hgg] at HE
    have hn := h0
    simp only [List.nodup_cons, List.mem_cons, List.not_mem_nil, or_false, not_or, List.nodup_nil, and_true, not_false_eq_true] at hn
    have hm : Mods [b] w (w.setCell ⟨b, 4, none⟩ (.int .u64 g)) := (Mods.refl _ _).setCell (.inl (by simp)) _
    have HF : Hid (IsRef (w.setCell ⟨b, 4, none⟩ (.int .u64 g)) b [b, bu, bt, bg] { S with gen := g } n) :=
      ⟨bu, bt, bg, cu, ct, cg, rfl, h0, h1.set 4 (.int .u64 g), h2.keep hm (by simp; omega), h3.keep hm (by simp; omega), h4.keep hm (by simp; omega), h5⟩
    clear h0 h1 h2 h3 h4 h5 hm hgg hn
    go_enter Tryd.func40, Tryd.ntmps40
    go_wp2_with fail
    go_quiet (fail)
    go_wp2_with fail
    go_ret2
    exact ⟨by rw [HE.out.1, HE.out.2.1]; rfl, ((Mods.refl _ _).drewN _).setCell (.inl (by simp)) _, by rw [HE.out.2.2]; exact HF.out⟩

set_option maxHeartbeats 400000 in
theorem may10_any (w : World) (n f : Int) (g l : Nat) :
    Calls Tryd.prog 32 #[.int .i64 n, .int .i64 f, .int .u64 g, .int .u64 l] w fun e w' => e = .returned (.bool (decide (1 ≤ n) && decide (n ≤ 4096) && decide (0 ≤ f) && decide (f < n) && decide (g ≤ l))) ∧ w = w' := by
  obtain ⟨x1, h1⟩ : ∃ x, decide (1 ≤ n) = x := ⟨_, rfl⟩
  obtain ⟨x2, h2⟩ : ∃ x, decide (n ≤ 4096) = x := ⟨_, rfl⟩
  obtain ⟨x3, h3⟩ : ∃ x, decide (0 ≤ f) = x := ⟨_, rfl⟩
  obtain ⟨x4, h4⟩ : ∃ x, decide (f < n) = x := ⟨_, rfl⟩
  rw [h1, h2, h3, h4]
  cases x1 <;> cases x2 <;> cases x3 <;> cases x4
  all_goals
    go_enter Tryd.func32, Tryd.ntmps32
    go_wp2
    go_ret
    exact ⟨by simp, rfl⟩
end Go.Proofs.YtahaecieklfhkaaDoor
