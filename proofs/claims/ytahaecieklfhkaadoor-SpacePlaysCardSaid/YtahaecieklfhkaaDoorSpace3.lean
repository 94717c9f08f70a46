/- The walks of package space: Use, Take, Give, free, Settle, Undo, New. -/
import Derived.Test.YtahaecieklfhkaaDoorSpace2
namespace Go.Proofs.YtahaecieklfhkaaDoor
open Go.RowKit

theorem setI_ok_len {l : List Bool} {k : Int} {is : Bool} : (setI l k is).length = l.length := setI_length l k is

/-- Use. -/
def Sp.useS (S : Sp) (k : Int) : Sp := if S.chk k = 0 then { S with used := setI S.used k true } else S
def Sp.useE (S : Sp) (k : Int) : Int := if S.chk k = 0 then (if memI S.used k then 19 else 0) else S.chk k
theorem Sp.chk_cases (S : Sp) (k : Int) : S.chk k = 0 ∨ S.chk k = 3 := by unfold Sp.chk; split; exact .inr rfl; exact .inl rfl

theorem used_upd {w w1 : World} {b bu cu bt ct bg cg : Nat} {S : Sp} {l : List Bool} (hnd : [b, bu, cu, bt, ct, bg, cg].Nodup) (h1 : Blk w b 87 (spHead S bu (.pointer (some ⟨bt, 0, none⟩)) (.pointer (some ⟨bg, 0, none⟩))))
    (h3 : IsSet w bt ct S.taken) (h4 : IsSet w bg cg S.given) (h5 : S.Ok) (hm : Mods [cu] w w1) (h2 : IsSet w1 bu cu l) (hl : l.length = S.used.length) :
    IsSpace w1 b [b, bu, cu, bt, ct, bg, cg] { S with used := l } := by
  refine ⟨bu, cu, bt, ct, bg, cg, rfl, hnd, ?_, h2, ?_, ?_, ?_⟩
  · exact h1.keep hm (by simp only [List.mem_singleton]; intro e; subst e; simp at hnd)
  · exact h3.keep hm (by simp only [List.mem_singleton]; intro e; subst e; simp at hnd) (by simp only [List.mem_singleton]; intro e; subst e; simp at hnd)
  · exact h4.keep hm (by simp only [List.mem_singleton]; intro e; subst e; simp at hnd) (by simp only [List.mem_singleton]; intro e; subst e; simp at hnd)
  · exact ⟨by rw [hl]; exact h5.len, by rw [hl]; exact h5.taken, by rw [hl]; exact h5.given, by rw [hl]; exact h5.max, h5.gen, h5.last⟩
theorem taken_upd {w w1 : World} {b bu cu bt ct bg cg : Nat} {S : Sp} {l : List Bool} (hnd : [b, bu, cu, bt, ct, bg, cg].Nodup) (h1 : Blk w b 87 (spHead S bu (.pointer (some ⟨bt, 0, none⟩)) (.pointer (some ⟨bg, 0, none⟩))))
    (h2 : IsSet w bu cu S.used) (h4 : IsSet w bg cg S.given) (h5 : S.Ok) (hm : Mods [ct] w w1) (h3 : IsSet w1 bt ct l) (hl : l.length = S.taken.length) :
    IsSpace w1 b [b, bu, cu, bt, ct, bg, cg] { S with taken := l } := by
  refine ⟨bu, cu, bt, ct, bg, cg, rfl, hnd, ?_, ?_, h3, ?_, ?_⟩
  · exact h1.keep hm (by simp only [List.mem_singleton]; intro e; subst e; simp at hnd)
  · exact h2.keep hm (by simp only [List.mem_singleton]; intro e; subst e; simp at hnd) (by simp only [List.mem_singleton]; intro e; subst e; simp at hnd)
  · exact h4.keep hm (by simp only [List.mem_singleton]; intro e; subst e; simp at hnd) (by simp only [List.mem_singleton]; intro e; subst e; simp at hnd)
  · exact ⟨h5.len, by rw [hl]; exact h5.taken, h5.given, h5.max, h5.gen, h5.last⟩
theorem given_upd {w w1 : World} {b bu cu bt ct bg cg : Nat} {S : Sp} {l : List Bool} (hnd : [b, bu, cu, bt, ct, bg, cg].Nodup) (h1 : Blk w b 87 (spHead S bu (.pointer (some ⟨bt, 0, none⟩)) (.pointer (some ⟨bg, 0, none⟩))))
    (h2 : IsSet w bu cu S.used) (h3 : IsSet w bt ct S.taken) (h5 : S.Ok) (hm : Mods [cg] w w1) (h4 : IsSet w1 bg cg l) (hl : l.length = S.given.length) :
    IsSpace w1 b [b, bu, cu, bt, ct, bg, cg] { S with given := l } := by
  refine ⟨bu, cu, bt, ct, bg, cg, rfl, hnd, ?_, ?_, ?_, h4, ?_⟩
  · exact h1.keep hm (by simp only [List.mem_singleton]; intro e; subst e; simp at hnd)
  · exact h2.keep hm (by simp only [List.mem_singleton]; intro e; subst e; simp at hnd) (by simp only [List.mem_singleton]; intro e; subst e; simp at hnd)
  · exact h3.keep hm (by simp only [List.mem_singleton]; intro e; subst e; simp at hnd) (by simp only [List.mem_singleton]; intro e; subst e; simp at hnd)
  · exact ⟨h5.len, h5.taken, by rw [hl]; exact h5.given, h5.max, h5.gen, h5.last⟩

set_option maxHeartbeats 800000 in
theorem spUse_any {w : World} {b : Nat} {fp : List Nat} {S : Sp} (h : IsSpace w b fp S) (k : Int) :
    Calls Tryd.prog 36 #[.pointer (some ⟨b, 0, none⟩), .int .i64 k] w fun e w' => e = .returned (.int .i64 (S.useE k)) ∧ Mods fp w w' ∧ IsSpace w' b fp (S.useS k) := by
  have hS := Lib.hid h
  have hck := Lib.hid (spCheck_any h k)
  obtain ⟨bu, cu, bt, ct, bg, cg, rfl, h0, h1, h2, h3, h4, h5⟩ := h
  have c1 := h1.cell (i := 1) rfl
  have HP := Lib.hid (put_any h2 k true)
  obtain ⟨c, hc⟩ : ∃ c, S.chk k = c := ⟨_, rfl⟩
  have hcc := S.chk_cases k
  rw [hc] at hcc
  have HC := Lib.hid hc
  have HF : Hid (∀ w1, Mods [cu] w w1 → IsSet w1 bu cu (setI S.used k true) → IsSpace w1 b [b, bu, cu, bt, ct, bg, cg] { S with used := setI S.used k true }) := fun w1 hm hs => used_upd h0 h1 h3 h4 h5 hm hs (setI_length _ _ _)
  clear h0 h1 h2 h3 h4 h5 hc
  rcases hcc with rfl | rfl
  · obtain ⟨x, hx⟩ : ∃ x, memI S.used k = x := ⟨_, rfl⟩
    have HX := Lib.hid hx
    clear hx
    cases x
    all_goals
      go_enter Tryd.func36, Tryd.ntmps36
      go_wp2_with fail
      refine hck.out.mono ?_
      rintro e w' ⟨rfl, rfl⟩
      rw [HC.out]
      go_wp2_with fail
      refine HP.out.mono ?_
      rintro e w1 ⟨rfl, hm1, hs1⟩
      rw [HX.out]
      have hfin := HF.out w1 hm1 hs1
      have HFin := Lib.hid (And.intro hm1 hfin)
      clear hm1 hs1 hfin
      go_wp2_with fail
      go_ret
      refine ⟨?_, HFin.out.1.mono (by simp), ?_⟩
      · rw [Sp.useE, if_pos HC.out, HX.out]; rfl
      · rw [Sp.useS, if_pos HC.out]; exact HFin.out.2
  · go_enter Tryd.func36, Tryd.ntmps36
    go_wp2_with fail
    refine hck.out.mono ?_
    rintro e w' ⟨rfl, rfl⟩
    rw [HC.out]
    go_wp2_with fail
    go_ret
    refine ⟨?_, Mods.refl _ _, ?_⟩
    · rw [Sp.useE, if_neg (by rw [HC.out]; decide), HC.out]; rfl
    · rw [Sp.useS, if_neg (by rw [HC.out]; decide)]; exact hS.out
set_option maxHeartbeats 400000 in
theorem spUse_nil (w : World) (k : Int) :
    Calls Tryd.prog 36 #[.pointer none, .int .i64 k] w fun e w' => e = .returned (.int .i64 1) ∧ w = w' := by
  go_enter Tryd.func36, Tryd.ntmps36
  go_wp2_with (go_at_call 50; refine (spCheck_nil _ _).mono ?_; rintro e w' ⟨rfl, rfl⟩)
  go_ret
  exact ⟨rfl, rfl⟩

/-- Give. -/
def Sp.giveS (S : Sp) (k : Int) : Sp := if S.chk k = 0 then (if memI S.used k then { S with given := setI S.given k true } else S) else S
def Sp.giveE (S : Sp) (k : Int) : Int := if S.chk k = 0 then (if memI S.used k then (if memI S.given k then 19 else 0) else 15) else S.chk k
set_option maxHeartbeats 800000 in
theorem spGive_any {w : World} {b : Nat} {fp : List Nat} {S : Sp} (h : IsSpace w b fp S) (k : Int) :
    Calls Tryd.prog 28 #[.pointer (some ⟨b, 0, none⟩), .int .i64 k] w fun e w' => e = .returned (.int .i64 (S.giveE k)) ∧ Mods fp w w' ∧ IsSpace w' b fp (S.giveS k) := by
  have hS := Lib.hid h
  have hck := Lib.hid (spCheck_any h k)
  obtain ⟨bu, cu, bt, ct, bg, cg, rfl, h0, h1, h2, h3, h4, h5⟩ := h
  have c1 := h1.cell (i := 1) rfl
  have c3 := h1.cell (i := 3) rfl
  have HH := Lib.hid (has_any h2 k)
  have HP := Lib.hid (fun n => put_any (h4.drewN n) k true)
  obtain ⟨c, hc⟩ : ∃ c, S.chk k = c := ⟨_, rfl⟩
  have hcc := S.chk_cases k
  rw [hc] at hcc
  have HC := Lib.hid hc
  have HF : Hid (∀ w1, Mods [cg] w w1 → IsSet w1 bg cg (setI S.given k true) → IsSpace w1 b [b, bu, cu, bt, ct, bg, cg] { S with given := setI S.given k true }) := fun w1 hm hs => given_upd h0 h1 h2 h3 h5 hm hs (setI_length _ _ _)
  clear h0 h1 h2 h3 h4 h5 hc
  rcases hcc with rfl | rfl
  · obtain ⟨x, hx⟩ : ∃ x, memI S.used k = x := ⟨_, rfl⟩
    have HX := Lib.hid hx
    clear hx
    cases x
    · go_enter Tryd.func28, Tryd.ntmps28
      go_wp2_with fail
      refine hck.out.mono ?_
      rintro e w' ⟨rfl, rfl⟩
      rw [HC.out]
      go_wp2_with fail
      refine HH.out.mono ?_
      rintro e w1 ⟨rfl, d, rfl⟩
      rw [HX.out]
      go_wp2_with fail
      go_ret
      refine ⟨?_, (Mods.refl _ _).drewN d, ?_⟩
      · rw [Sp.giveE, if_pos HC.out, HX.out]; rfl
      · rw [Sp.giveS, if_pos HC.out, HX.out]; exact hS.out.drewN d
    · obtain ⟨y, hy⟩ : ∃ y, memI S.given k = y := ⟨_, rfl⟩
      have HY := Lib.hid hy
      clear hy
      cases y
      all_goals
        go_enter Tryd.func28, Tryd.ntmps28
        go_wp2_with fail
        refine hck.out.mono ?_
        rintro e w' ⟨rfl, rfl⟩
        rw [HC.out]
        go_wp2_with fail
        refine HH.out.mono ?_
        rintro e w1 ⟨rfl, d, rfl⟩
        rw [HX.out]
        go_wp2_with fail
        refine (HP.out d).mono ?_
        rintro e w1 ⟨rfl, hm1, hs1⟩
        rw [HY.out]
        have hm1' : Mods [cg] w w1 := ⟨hm1.os, hm1.tape, hm1.output, hm1.size, hm1.block⟩
        have hfin := HF.out w1 hm1' hs1
        have HFin := Lib.hid (And.intro hm1' hfin)
        clear hm1 hm1' hs1 hfin
        go_wp2_with fail
        go_ret
        refine ⟨?_, HFin.out.1.mono (by simp), ?_⟩
        · rw [Sp.giveE, if_pos HC.out, HX.out, HY.out]; rfl
        · rw [Sp.giveS, if_pos HC.out, HX.out]; exact HFin.out.2
  · go_enter Tryd.func28, Tryd.ntmps28
    go_wp2_with fail
    refine hck.out.mono ?_
    rintro e w' ⟨rfl, rfl⟩
    rw [HC.out]
    go_wp2_with fail
    go_ret
    refine ⟨?_, Mods.refl _ _, ?_⟩
    · rw [Sp.giveE, if_neg (by rw [HC.out]; decide), HC.out]; rfl
    · rw [Sp.giveS, if_neg (by rw [HC.out]; decide)]; exact hS.out
set_option maxHeartbeats 400000 in
theorem spGive_nil (w : World) (k : Int) :
    Calls Tryd.prog 28 #[.pointer none, .int .i64 k] w fun e w' => e = .returned (.int .i64 1) ∧ w = w' := by
  go_enter Tryd.func28, Tryd.ntmps28
  go_wp2_with (go_at_call 50; refine (spCheck_nil _ _).mono ?_; rintro e w' ⟨rfl, rfl⟩)
  go_ret
  exact ⟨rfl, rfl⟩

/-- Take. -/
def Sp.tk (S : Sp) : Option Nat := nextL S.used S.first false
def Sp.takeS (S : Sp) : Sp := match S.tk with | none => S | some k => { S with used := setI S.used k true, taken := setI S.taken k true }
def Sp.takeE (S : Sp) : Int := if nxB S.tk then 0 else 11
set_option maxHeartbeats 800000 in
theorem spTake_any {w : World} {b : Nat} {fp : List Nat} {S : Sp} (h : IsSpace w b fp S) (hT : Tab w) :
    Calls Tryd.prog 27 #[.pointer (some ⟨b, 0, none⟩)] w fun e w' => e = .returned (.tuple #[.int .i64 (nxK S.tk : Nat), .int .i64 S.takeE]) ∧ Mods fp w w' ∧ IsSpace w' b fp S.takeS := by
  have hS := Lib.hid h
  obtain ⟨bu, cu, bt, ct, bg, cg, rfl, h0, h1, h2, h3, h4, h5⟩ := h
  have c0 := h1.cell (i := 0) rfl
  have c1 := h1.cell (i := 1) rfl
  have HNx : Hid (∀ d, Calls Tryd.prog 15 #[.pointer (some ⟨bu, 0, none⟩), .int .i64 S.first, .bool false] (w.drewN d) fun e w' => e = .returned (.tuple #[.int .i64 (nxK S.tk : Nat), .bool (nxB S.tk)]) ∧ w' = w.drewN d) := by
    intro d
    refine (next_any (h2.drewN d) (hT.drewN d) S.first false).mono fun e w' ⟨he, hw⟩ => ⟨?_, hw.symm⟩
    have : nextI S.used (S.first : Int) false = S.tk := by unfold nextI Sp.tk; rw [Int.toNat_natCast]
    rw [he, this]
  obtain ⟨f, hf⟩ : ∃ f, S.first = f := ⟨_, rfl⟩
  rw [hf] at c0
  rw [hf] at HNx
  have HFst := Lib.hid hf
  have H0 := Lib.hid h0
  have H1 := Lib.hid h1
  have H2 := Lib.hid h2
  have H3 := Lib.hid h3
  have H4 := Lib.hid h4
  have H5 := Lib.hid h5
  clear h0 h1 h2 h3 h4 h5 hf hT
  rcases next_cases S.tk with ⟨hr, hk, hb⟩ | ⟨k, hr, hk, hb⟩
  · rw [hk, hb] at HNx
    rw [hk]
    have HR := Lib.hid (And.intro hr hb)
    clear hr hk hb
    go_enter Tryd.func27, Tryd.ntmps27
    go_wp2
    go_quiet ((go_at_call 15; exact Calls.quiet_of_same (HNx.out _)))
    go_wp2
    go_ret2
    refine ⟨?_, (Mods.refl _ _).drewN _, ?_⟩
    · rw [Sp.takeE, HR.out.2]; rfl
    · rw [Sp.takeS, HR.out.1]; exact hS.out.drewN _
  · rw [hk, hb] at HNx
    rw [hk]
    have HR := Lib.hid (And.intro hr hb)
    clear hr hk hb
    go_enter Tryd.func27, Tryd.ntmps27
    go_wp2
    go_quiet ((go_at_call 15; exact Calls.quiet_of_same (HNx.out _)))
    go_wp2_with fail
    refine (put_any (w := w.drewN _) (H2.out.drewN _) _ _).mono ?_
    rintro e w1 ⟨rfl, hm1, hs1⟩
    have hm1' : Mods [cu] w w1 := ⟨hm1.os, hm1.tape, hm1.output, hm1.size, hm1.block⟩
    have hA := used_upd H0.out H1.out H3.out H4.out H5.out hm1' hs1 (setI_length _ _ _)
    have hnd := H0.out
    have hb1 := H1.out.keep hm1' (by simp only [List.mem_singleton]; intro e; subst e; simp at hnd)
    have ht1 := H3.out.keep hm1' (by simp only [List.mem_singleton]; intro e; subst e; simp at hnd) (by simp only [List.mem_singleton]; intro e; subst e; simp at hnd)
    have hg1 := H4.out.keep hm1' (by simp only [List.mem_singleton]; intro e; subst e; simp at hnd) (by simp only [List.mem_singleton]; intro e; subst e; simp at hnd)
    have d2 := hb1.cell (i := 2) rfl
    have hok := hA.ok
    have HB1 := Lib.hid hb1
    have HT1 := Lib.hid ht1
    have HG1 := Lib.hid hg1
    have HS1 := Lib.hid hs1
    have HM1 := Lib.hid hm1'
    have HOk := Lib.hid hok
    clear hm1 hm1' hA hnd hb1 ht1 hg1 hs1 hok c0 c1
    go_wp2_with fail
    refine (put_any HT1.out _ _).mono ?_
    rintro e w2 ⟨rfl, hm2, hs2⟩
    have hfin := taken_upd (S := { S with used := setI S.used k true }) H0.out HB1.out HS1.out HG1.out HOk.out hm2 hs2 (setI_length _ _ _)
    have HFin := Lib.hid hfin
    have HM2 := Lib.hid ((HM1.out.mono (L1 := [b, bu, cu, bt, ct, bg, cg]) (by simp)).trans hm2 (by simp))
    clear hm2 hs2 hfin
    go_wp2_with fail
    go_ret2
    refine ⟨?_, HM2.out, ?_⟩
    · rw [Sp.takeE, HR.out.2]; rfl
    · rw [Sp.takeS, HR.out.1]; exact HFin.out
set_option maxHeartbeats 400000 in
theorem spTake_nil (w : World) :
    Calls Tryd.prog 27 #[.pointer none] w fun e w' => e = .returned (.tuple #[.int .i64 0, .int .i64 1]) ∧ w = w' := by
  go_enter Tryd.func27, Tryd.ntmps27
  go_wp2
  go_ret2
  exact ⟨rfl, rfl⟩
end Go.Proofs.YtahaecieklfhkaaDoor
