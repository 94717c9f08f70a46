/- The walks of package space, second half. -/
import Derived.Test.YtahaecieklfhkaaDoorSpace1
namespace Go.Proofs.YtahaecieklfhkaaDoor
open Go.RowKit

theorem Sp.Ok.fresh {S : Sp} (h : S.Ok) : S.fresh.Ok := ⟨h.len, by simp [Sp.fresh], by simp [Sp.fresh], h.max, h.gen, h.last⟩
theorem space_mk {w : World} {b bu cu bt ct bg cg : Nat} {S : Sp} (hnd : [b, bu, cu, bt, ct, bg, cg].Nodup) (h1 : Blk w b 87 (spHead S bu (.pointer (some ⟨bt, 0, none⟩)) (.pointer (some ⟨bg, 0, none⟩)))) (h2 : IsSet w bu cu S.used) (h3 : IsSet w bt ct S.taken) (h4 : IsSet w bg cg S.given) (h5 : S.Ok) :
    IsSpace w b [b, bu, cu, bt, ct, bg, cg] S := ⟨bu, cu, bt, ct, bg, cg, rfl, hnd, h1, h2, h3, h4, h5⟩

theorem nodup_ne {b x : Nat} {l : List Nat} (h : (b :: l).Nodup) (hx : x ∈ l) : x ∉ [b] := by
  simp only [List.mem_singleton]
  rintro rfl
  exact (List.nodup_cons.1 h).1 hx
/-- begin, of a space whose lists of taken and given ones are whatever. -/
theorem begin_any (w : World) (b bu cu : Nat) (S : Sp) (x y : Value) (hb : Blk w b 87 (spHead S bu x y)) (hu : IsSet w bu cu S.used) (hd : b ≠ bu ∧ b ≠ cu) (hok : S.fresh.Ok) :
    Calls Tryd.prog 49 #[.pointer (some ⟨b, 0, none⟩)] w fun e w' => e = .returned (.tuple #[]) ∧ Mods [b] w w' ∧ ∃ fp, IsSpace w' b fp S.fresh ∧ (∀ k ∈ fp, k = b ∨ k = bu ∨ k = cu ∨ w.heap.size ≤ k) := by
  have hbl := hb.lt
  have hul := hu.lt
  refine (begin_at w b bu cu S x y hb hu hd).mono fun e w' ⟨he, hm, bt, ct, bg, cg, n1, n2, n3, n4, n5, n6, n7, n8, h1, h2, h3, h4⟩ => ⟨he, hm, _, space_mk (S := S.fresh) ?_ h1 h2 h3 h4 hok, ?_⟩
  · simp only [List.nodup_cons, List.mem_cons, List.not_mem_nil, or_false, not_or, List.nodup_nil, and_true, not_false_eq_true]
    omega
  · intro k hk
    simp only [List.mem_cons, List.not_mem_nil, or_false] at hk
    omega

/-- What check answers. -/
def Sp.chk (S : Sp) (k : Int) : Int := if k < S.first ∨ (S.used.length : Int) ≤ k then 3 else 0
set_option maxHeartbeats 400000 in
theorem spCheck_any {w : World} {b : Nat} {fp : List Nat} {S : Sp} (h : IsSpace w b fp S) (k : Int) :
    Calls Tryd.prog 50 #[.pointer (some ⟨b, 0, none⟩), .int .i64 k] w fun e w' => e = .returned (.int .i64 (S.chk k)) ∧ w = w' := by
  obtain ⟨bu, cu, bt, ct, bg, cg, rfl, h0, h1, h2, h3, h4, h5⟩ := h
  have c0 := h1.cell (i := 0) rfl
  have c1 := h1.cell (i := 1) rfl
  have hsz := Lib.hid (size_any h2)
  have hok := h5.len
  clear h0 h1 h2 h3 h4 h5
  by_cases hk : k < (S.first : Int)
  · go_enter Tryd.func50, Tryd.ntmps50
    go_wp2_with (go_at_call 22; refine hsz.out.mono ?_; rintro e w' ⟨rfl, rfl⟩)
    go_ret
    exact ⟨by rw [Sp.chk, if_pos (.inl hk)]; rfl, rfl⟩
  · have hd : decide (k < (S.first : Int)) = false := by simpa using hk
    by_cases hk2 : (S.used.length : Int) ≤ k
    · go_enter Tryd.func50, Tryd.ntmps50
      go_wp2_with (go_at_call 22; refine hsz.out.mono ?_; rintro e w' ⟨rfl, rfl⟩)
      go_ret
      exact ⟨by rw [Sp.chk, if_pos (.inr hk2)]; rfl, rfl⟩
    · go_enter Tryd.func50, Tryd.ntmps50
      go_wp2_with (go_at_call 22; refine hsz.out.mono ?_; rintro e w' ⟨rfl, rfl⟩)
      go_ret
      exact ⟨by rw [Sp.chk, if_neg (by omega)]; rfl, rfl⟩
set_option maxHeartbeats 400000 in
theorem spCheck_nil (w : World) (k : Int) :
    Calls Tryd.prog 50 #[.pointer none, .int .i64 k] w fun e w' => e = .returned (.int .i64 1) ∧ w = w' := by
  go_enter Tryd.func50, Tryd.ntmps50
  go_wp2
  go_ret
  exact ⟨rfl, rfl⟩

/-- The next generation. -/
def Sp.step (S : Sp) : Sp := if S.last ≤ S.gen then S else { S with gen := S.gen + 1 }
def Sp.stepG (S : Sp) : Nat := if S.last ≤ S.gen then 0 else S.gen + 1
def Sp.stepE (S : Sp) : Int := if S.last ≤ S.gen then 12 else 0
set_option maxHeartbeats 400000 in
theorem spStep_any {w : World} {b : Nat} {fp : List Nat} {S : Sp} (h : IsSpace w b fp S) :
    Calls Tryd.prog 25 #[.pointer (some ⟨b, 0, none⟩)] w fun e w' => e = .returned (.tuple #[.int .u64 (S.stepG : Nat), .int .i64 S.stepE]) ∧ Mods fp w w' ∧ IsSpace w' b fp S.step := by
  have hS := h
  obtain ⟨bu, cu, bt, ct, bg, cg, rfl, h0, h1, h2, h3, h4, h5⟩ := h
  have c4 := h1.cell (i := 4) rfl
  have c5 := h1.cell (i := 5) rfl
  have f4 := h1.free 4
  have hg := h5.gen
  have hl := h5.last
  by_cases hk : S.last ≤ S.gen
  · have HS := Lib.hid hS
    clear h0 h1 h2 h3 h4 h5 hS
    generalize hgg : S.gen = g at *
    generalize hll : S.last = l at *
    have HG := Lib.hid (And.intro hgg hll)
    clear hgg hll
    have hd : decide ((l : Int) ≤ (g : Int)) = true := by simpa using hk
    go_enter Tryd.func25, Tryd.ntmps25
    go_wp2
    go_quiet (fail)
    go_wp2
    go_ret2
    have hk2 : S.last ≤ S.gen := by rw [HG.out.1, HG.out.2]; exact hk
    refine ⟨by rw [Sp.stepG, Sp.stepE, if_pos hk2, if_pos hk2]; rfl, (Mods.refl _ _).drewN _, ?_⟩
    rw [Sp.step, if_pos hk2]; exact HS.out.drewN _
  · have hs : Blk (w.setCell ⟨b, 4, none⟩ (.int .u64 ((S.gen : Int) + 1))) b 87 (spHead S.step bu (.pointer (some ⟨bt, 0, none⟩)) (.pointer (some ⟨bg, 0, none⟩))) := by
      have := h1.set 4 (.int .u64 ((S.gen : Int) + 1))
      rw [Sp.step, if_neg hk]; exact this
    have hm : Mods [b] w (w.setCell ⟨b, 4, none⟩ (.int .u64 ((S.gen : Int) + 1))) := (Mods.refl _ _).setCell (.inl (by simp)) _
    have hnd := h0
    have e2 : S.step.used = S.used ∧ S.step.taken = S.taken ∧ S.step.given = S.given := by rw [Sp.step, if_neg hk]; exact ⟨rfl, rfl, rfl⟩
    have HF : Hid (IsSpace (w.setCell ⟨b, 4, none⟩ (.int .u64 ((S.gen : Int) + 1))) b [b, bu, cu, bt, ct, bg, cg] S.step) := by
      refine ⟨bu, cu, bt, ct, bg, cg, rfl, hnd, hs, ?_, ?_, ?_, ?_⟩
      · rw [e2.1]; exact h2.keep hm (nodup_ne hnd (by simp)) (nodup_ne hnd (by simp))
      · rw [e2.2.1]; exact h3.keep hm (nodup_ne hnd (by simp)) (nodup_ne hnd (by simp))
      · rw [e2.2.2]; exact h4.keep hm (nodup_ne hnd (by simp)) (nodup_ne hnd (by simp))
      · rw [Sp.step, if_neg hk]; exact ⟨h5.len, h5.taken, h5.given, h5.max, by show S.gen + 1 < _; omega, h5.last⟩
    have HM := Lib.hid (hm.mono (L1 := [b, bu, cu, bt, ct, bg, cg]) (by simp))
    clear h0 h1 h2 h3 h4 h5 hS hs hm hnd e2
    have hk2 := Lib.hid hk
    generalize hgg : S.gen = g at *
    generalize hll : S.last = l at *
    have HG := Lib.hid (And.intro hgg hll)
    clear hgg hll
    have hd : decide ((l : Int) ≤ (g : Int)) = false := by simpa using hk
    go_enter Tryd.func25, Tryd.ntmps25
    go_wp2
    go_quiet (fail)
    go_wp2
    go_ret2
    have hk2 : ¬ S.last ≤ S.gen := by rw [HG.out.1, HG.out.2]; exact hk
    refine ⟨by rw [Sp.stepG, Sp.stepE, if_neg hk2, if_neg hk2, HG.out.1]; rfl, HM.out.drewN _, HF.out.drewN _⟩
set_option maxHeartbeats 400000 in
theorem spStep_nil (w : World) :
    Calls Tryd.prog 25 #[.pointer none] w fun e w' => e = .returned (.tuple #[.int .u64 0, .int .i64 1]) ∧ w = w' := by
  go_enter Tryd.func25, Tryd.ntmps25
  go_wp2
  go_ret2
  exact ⟨rfl, rfl⟩
set_option maxHeartbeats 400000 in
theorem spGen_any {w : World} {b : Nat} {fp : List Nat} {S : Sp} (h : IsSpace w b fp S) :
    Calls Tryd.prog 26 #[.pointer (some ⟨b, 0, none⟩)] w fun e w' => e = .returned (.int .u64 S.gen) ∧ w = w' := by
  obtain ⟨bu, cu, bt, ct, bg, cg, rfl, h0, h1, h2, h3, h4, h5⟩ := h
  have c4 := h1.cell (i := 4) rfl
  clear h0 h1 h2 h3 h4 h5
  go_enter Tryd.func26, Tryd.ntmps26
  go_wp2
  go_ret
  exact ⟨rfl, rfl⟩
set_option maxHeartbeats 400000 in
theorem spGen_nil (w : World) :
    Calls Tryd.prog 26 #[.pointer none] w fun e w' => e = .returned (.int .u64 0) ∧ w = w' := by
  go_enter Tryd.func26, Tryd.ntmps26
  go_wp2
  go_ret
  exact ⟨rfl, rfl⟩
set_option maxHeartbeats 400000 in
theorem spUsed_any {w : World} {b : Nat} {fp : List Nat} {S : Sp} (h : IsSpace w b fp S) (k : Int) :
    Calls Tryd.prog 41 #[.pointer (some ⟨b, 0, none⟩), .int .i64 k] w fun e w' => e = .returned (.bool (memI S.used k)) ∧ ∃ n, w' = w.drewN n := by
  obtain ⟨bu, cu, bt, ct, bg, cg, rfl, h0, h1, h2, h3, h4, h5⟩ := h
  have c1 := h1.cell (i := 1) rfl
  have hh := Lib.hid (has_any h2 k)
  clear h0 h1 h2 h3 h4 h5
  go_enter Tryd.func41, Tryd.ntmps41
  go_wp2_with (go_at_call 14; refine hh.out.mono ?_; rintro e w' ⟨rfl, n, rfl⟩)
  go_ret
  exact ⟨rfl, _, rfl⟩
set_option maxHeartbeats 400000 in
theorem spUsed_nil (w : World) (k : Int) :
    Calls Tryd.prog 41 #[.pointer none, .int .i64 k] w fun e w' => e = .returned (.bool false) ∧ w = w' := by
  go_enter Tryd.func41, Tryd.ntmps41
  go_wp2
  go_ret
  exact ⟨rfl, rfl⟩
set_option maxHeartbeats 400000 in
theorem spFree_any {w : World} {b : Nat} {fp : List Nat} {S : Sp} (h : IsSpace w b fp S) :
    Calls Tryd.prog 31 #[.pointer (some ⟨b, 0, none⟩)] w fun e w' => e = .returned (.int .i64 (S.used.count false : Nat)) ∧ ∃ n, w' = w.drewN n := by
  obtain ⟨bu, cu, bt, ct, bg, cg, rfl, h0, h1, h2, h3, h4, h5⟩ := h
  have c1 := h1.cell (i := 1) rfl
  have hc := fun (q : Nat) => count_any (h2.drewN q)
  have hz := fun (q : Nat) => size_any (h2.drewN q)
  have hmax := h5.max
  have hcc : S.used.count false + S.used.count true = S.used.length := by
    generalize S.used = l
    induction l with
    | nil => rfl
    | cons x xs ih => cases x <;> simp <;> omega
  obtain ⟨x, hx⟩ : ∃ x, S.used.count true = x := ⟨_, rfl⟩
  obtain ⟨y, hy⟩ : ∃ y, S.used.length = y := ⟨_, rfl⟩
  obtain ⟨z, hzz⟩ : ∃ z, S.used.count false = z := ⟨_, rfl⟩
  rw [hx] at hc
  rw [hy] at hz hmax
  rw [hx, hy, hzz] at hcc
  rw [hzz]
  have hxy : x ≤ y := by omega
  have HC := Lib.hid hc
  have HZ := Lib.hid hz
  have HH := Lib.hid hcc
  clear h0 h1 h2 h3 h4 h5 hc hz hcc hx hy hzz
  have hyx : IntKind.i64.wrap ((y : Int) - (x : Int)) = (y : Int) - (x : Int) := IntWalk.i64_in _ (by omega)
  go_enter Tryd.func31, Tryd.ntmps31
  go_wp2
  go_quiet ((first | (go_at_call 22; exact Calls.quiet_of_same ((HZ.out _).mono fun e w' ⟨he, hw⟩ => ⟨he, hw.symm⟩)) | (go_at_call 16; exact Calls.quiet_of_same ((HC.out _).mono fun e w' ⟨he, hw⟩ => ⟨he, hw.symm⟩))))
  go_wp2
  go_ret
  refine ⟨?_, _, rfl⟩
  have := HH.out
  show Ending.returned (.int .i64 ((y : Int) - (x : Int))) = _
  congr 2
  omega
set_option maxHeartbeats 400000 in
theorem spFree_nil (w : World) :
    Calls Tryd.prog 31 #[.pointer none] w fun e w' => e = .returned (.int .i64 0) ∧ w = w' := by
  go_enter Tryd.func31, Tryd.ntmps31
  go_wp2
  go_ret
  exact ⟨rfl, rfl⟩
end Go.Proofs.YtahaecieklfhkaaDoor
