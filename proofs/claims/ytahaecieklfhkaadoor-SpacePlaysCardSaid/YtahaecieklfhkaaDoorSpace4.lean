/- The walks of package space: free, Settle, Undo, New. -/
import Derived.Test.YtahaecieklfhkaaDoorSpace3
namespace Go.Proofs.YtahaecieklfhkaaDoor
open Go.RowKit

/-- A set without some numbers. -/
def minus (u : List Bool) (ks : List Nat) : List Bool := ks.foldl (fun u (k : Nat) => setI u (k : Int) false) u
theorem minus_length : ∀ (ks : List Nat) (u : List Bool), (minus u ks).length = u.length
  | [], _ => rfl
  | k :: ks, u => by
    show (minus (setI u k false) ks).length = _
    rw [minus_length ks, setI_length]
theorem minus_snoc (u : List Bool) (ks : List Nat) (k : Nat) : minus u (ks ++ [k]) = setI (minus u ks) k false := by simp [minus]
theorem mem_setI (u : List Bool) (k j : Nat) (is : Bool) (hj : j < u.length) : mem (setI u (k : Int) is) j = if j = k then is else mem u j := by
  unfold setI
  by_cases hk : k < u.length
  · have hi : inB (u.length : Int) (k : Int) = true := by simp [inB]; omega
    rw [if_pos hi, Int.toNat_natCast, mem_set]
    by_cases e : j = k
    · subst e; rw [if_pos ⟨rfl, hk⟩, if_pos rfl]
    · rw [if_neg (fun h => e h.1.symm), if_neg e]
  · have hi : ¬ inB (u.length : Int) (k : Int) = true := by simp [inB]; omega
    rw [if_neg hi, if_neg (by omega)]
theorem mem_minus : ∀ (ks : List Nat) (u : List Bool) (j : Nat), j < u.length → mem (minus u ks) j = (mem u j && !ks.contains j)
  | [], u, j, _ => by simp [minus]
  | k :: ks, u, j, hj => by
    show mem (minus (setI u k false) ks) j = _
    rw [mem_minus ks _ j (by rw [setI_length]; exact hj), mem_setI u k j false hj]
    by_cases e : j = k
    · subst e; simp
    · have : (j == k) = false := by simpa using e
      rw [if_neg e, List.contains_cons, this, Bool.false_or]
theorem mem_onL (l : List Bool) (j : Nat) : (onL l).contains j = mem l j := by
  rw [Bool.eq_iff_iff, List.contains_iff_mem]
  unfold onL
  rw [List.mem_filter, List.mem_range]
  constructor
  · intro h; exact h.2
  · intro h
    refine ⟨?_, h⟩
    apply Classical.byContradiction
    intro hn
    rw [mem_out (by omega)] at h
    cases h

/-- The space in which some are free, and nothing was taken or given. -/
def Sp.freeS (S : Sp) (ks : List Nat) : Sp := { S with used := minus S.used ks }.fresh

set_option maxHeartbeats 1000000 in
theorem spFreeL_any {w : World} {b : Nat} {fp : List Nat} {S : Sp} (h : IsSpace w b fp S) {Ad : Option Addr} {cap : Nat} {ks : List Nat} (hr : Row w Ad (intsOf ks)) (hoff : Off Ad fp) (hmax : ks.length ≤ 4096) :
    Calls Tryd.prog 51 #[.pointer (some ⟨b, 0, none⟩), .slice Ad ks.length cap] w fun e w' => e = .returned (.tuple #[]) ∧ Mods fp w w' ∧ ∃ fp1, IsSpace w' b fp1 (S.freeS ks) ∧ (∀ k ∈ fp1, k ∈ fp ∨ w.heap.size ≤ k) := by
  obtain ⟨bu, cu, bt, ct, bg, cg, rfl, h0, h1, h2, h3, h4, h5⟩ := h
  have hR := Lib.hid hr
  have hO := Lib.hid hoff
  obtain ⟨N, hN⟩ : ∃ N, ks.length = N := ⟨_, rfl⟩
  rw [hN] at hmax ⊢
  have HN := Lib.hid hN
  have H0 := Lib.hid h0
  have H1 := Lib.hid h1
  have H2 := Lib.hid h2
  have H5 := Lib.hid h5
  clear hr hoff hN h0 h1 h2 h3 h4 h5
  go_enter Tryd.func51, Tryd.ntmps51
  go_wp2_with fail
  go_loopw [8] (fun iv wr => ∃ i : Nat, i ≤ N ∧ iv = .int .i64 i ∧ Mods [cu] w wr ∧ IsSet wr bu cu (minus S.used (ks.take i))) (fun iv _ => N - (intOf iv).toNat)
  case atStart => exact ⟨0, Nat.zero_le _, rfl, Mods.refl _ _, H2.out⟩
  case round =>
    obtain ⟨i, hi, rfl, hm, hu⟩ := hrel
    have hnd := H0.out
    have hb := H1.out.keep hm (by simp only [List.mem_singleton]; intro e; subst e; simp at hnd)
    clear hnd
    have c1 := hb.cell (i := 1) rfl
    have HU := Lib.hid hu
    have HM := Lib.hid hm
    have HB := Lib.hid hb
    clear hu hm hb
    by_cases hlt : i < N
    · have hil : i < ks.length := by rw [HN.out]; exact hlt
      have hget : (intsOf ks)[i]? = some (.int .i64 (ks[i] : Nat)) := by simp [intsOf, hil]
      obtain ⟨br, or, rfl, hc⟩ := (hR.out.keep HM.out (fun a ha hk => hO.out a ha (by simp only [List.mem_singleton] at hk; simp [hk]))).at hget
      have hsn : ks.take (i + 1) = ks.take i ++ [ks[i]] := by rw [List.take_succ_eq_append_getElem hil]
      obtain ⟨k, hk⟩ : ∃ k, ks[i] = k := ⟨_, rfl⟩
      rw [hk] at hc hsn
      have HSN := Lib.hid hsn
      clear hget hk hsn
      go_wp2_with fail
      refine (put_any HU.out _ _).mono ?_
      rintro e w1 ⟨rfl, hm1, hs1⟩
      rw [← minus_snoc] at hs1
      have HS1 := Lib.hid hs1
      have HM1 := Lib.hid (HM.out.trans hm1 (by simp))
      clear hs1 hm1
      go_wp2_with fail
      go_roundw
      case rel => exact ⟨i + 1, by omega, by go_num, HM1.out, by rw [HSN.out]; exact HS1.out⟩
      case measure => simp [intOf]; omega
    · obtain rfl : i = N := by omega
      have e1 : ks.take i = ks := List.take_of_length_le (by rw [HN.out]; exact Nat.le_refl _)
      have HU2 : Hid (IsSet wr bu cu (minus S.used ks)) := by have := HU.out; rw [e1] at this; exact this
      clear e1
      have hok : ({ S with used := minus S.used ks } : Sp).fresh.Ok :=
        ⟨by show S.first < (minus S.used ks).length; rw [minus_length]; exact H5.out.len, by simp [Sp.fresh], by simp [Sp.fresh], by show (minus S.used ks).length ≤ _; rw [minus_length]; exact H5.out.max, H5.out.gen, H5.out.last⟩
      have hnd := H0.out
      have hbb : b ≠ bu ∧ b ≠ cu := ⟨by intro e; subst e; simp at hnd, by intro e; subst e; simp at hnd⟩
      have hbeg := begin_any wr b bu cu { S with used := minus S.used ks } _ _ HB.out HU2.out hbb hok
      have HBeg := Lib.hid hbeg
      have hwr := HM.out.size
      clear hok hnd hbb hbeg hlt
      go_wp2_with fail
      refine HBeg.out.mono ?_
      rintro e w2 ⟨rfl, hm2, fp1, hs2, hfp⟩
      have HF : Hid (Mods [b, bu, cu, bt, ct, bg, cg] w w2) := (HM.out.mono (by simp)).trans hm2 (by simp)
      have HS2 := Lib.hid hs2
      clear hm2 hs2
      go_wp2_with fail
      go_end0
      refine ⟨rfl, HF.out, fp1, HS2.out, fun k hk => ?_⟩
      rcases hfp k hk with h | h | h | h
      · left; simp [h]
      · left; simp [h]
      · left; simp [h]
      · right; omega

/-- Settle, Undo. -/
def Sp.settleS (S : Sp) : Sp := S.freeS (onL S.given)
def Sp.undoS (S : Sp) : Sp := S.freeS (onL S.taken)
set_option maxHeartbeats 800000 in
theorem spSettle_any {w : World} {b : Nat} {fp : List Nat} {S : Sp} (h : IsSpace w b fp S) (hT : Tab w) :
    Calls Tryd.prog 29 #[.pointer (some ⟨b, 0, none⟩)] w fun e w' => e = .returned (.tuple #[]) ∧ Mods fp w w' ∧ ∃ fp1, IsSpace w' b fp1 S.settleS ∧ (∀ k ∈ fp1, k ∈ fp ∨ w.heap.size ≤ k) := by
  have hS := Lib.hid h
  have hlt := h.lt
  have hmx := h.ok
  obtain ⟨bu, cu, bt, ct, bg, cg, hfp, h0, h1, h2, h3, h4, h5⟩ := h
  have c3 := h1.cell (i := 3) rfl
  have hL := Lib.hid (list_row h4 hT)
  have hg := h5.given
  have hgm := h5.max
  have hln := onL_length S.given
  have HLn : Hid ((onL S.given).length ≤ 4096) := by unfold Hid; omega
  have HLt := Lib.hid hlt
  clear h0 h1 h2 h3 h4 h5 hT hg hgm hln hlt hmx hfp
  go_enter Tryd.func29, Tryd.ntmps29
  go_wp2_with fail
  refine hL.out.mono ?_
  rintro e w1 ⟨A1, cap1, rfl, hr1, hm1, hoff1, hcap1, hnil1⟩
  have hS1 := hS.out.keep hm1 (by simp)
  have hfr := spFreeL_any hS1 (cap := cap1) hr1 (fun a ha hk => by have := hoff1 a ha; have := HLt.out _ hk; omega) HLn.out
  have HF := Lib.hid hfr
  have HM1 := Lib.hid hm1
  have hsz := hm1.size
  clear hr1 hm1 hoff1 hnil1 hS1 hfr
  go_wp2_with fail
  refine HF.out.mono ?_
  rintro e w2 ⟨rfl, hm2, fp1, hs2, hfp⟩
  have HM2 := Lib.hid ((HM1.out.mono (L1 := fp) (by simp)).trans hm2 (fun k hk => .inl hk))
  have HS2 := Lib.hid hs2
  have HFP := Lib.hid hfp
  clear hm2 hs2 hfp
  go_wp2_with fail
  go_end0
  exact ⟨rfl, HM2.out, fp1, HS2.out, fun k hk => by rcases HFP.out k hk with h | h; exact .inl h; right; omega⟩
set_option maxHeartbeats 400000 in
theorem spSettle_nil (w : World) : Calls Tryd.prog 29 #[.pointer none] w fun e w' => e = .returned (.tuple #[]) ∧ w = w' := by
  go_enter Tryd.func29, Tryd.ntmps29
  go_wp2
  go_end0
  exact ⟨rfl, rfl⟩
set_option maxHeartbeats 800000 in
theorem spUndo_any {w : World} {b : Nat} {fp : List Nat} {S : Sp} (h : IsSpace w b fp S) (hT : Tab w) :
    Calls Tryd.prog 30 #[.pointer (some ⟨b, 0, none⟩)] w fun e w' => e = .returned (.tuple #[]) ∧ Mods fp w w' ∧ ∃ fp1, IsSpace w' b fp1 S.undoS ∧ (∀ k ∈ fp1, k ∈ fp ∨ w.heap.size ≤ k) := by
  have hS := Lib.hid h
  have hlt := h.lt
  have hmx := h.ok
  obtain ⟨bu, cu, bt, ct, bg, cg, hfp, h0, h1, h2, h3, h4, h5⟩ := h
  have c2 := h1.cell (i := 2) rfl
  have hL := Lib.hid (list_row h3 hT)
  have hg := h5.taken
  have hgm := h5.max
  have hln := onL_length S.taken
  have HLn : Hid ((onL S.taken).length ≤ 4096) := by unfold Hid; omega
  have HLt := Lib.hid hlt
  clear h0 h1 h2 h3 h4 h5 hT hg hgm hln hlt hmx hfp
  go_enter Tryd.func30, Tryd.ntmps30
  go_wp2_with fail
  refine hL.out.mono ?_
  rintro e w1 ⟨A1, cap1, rfl, hr1, hm1, hoff1, hcap1, hnil1⟩
  have hS1 := hS.out.keep hm1 (by simp)
  have hfr := spFreeL_any hS1 (cap := cap1) hr1 (fun a ha hk => by have := hoff1 a ha; have := HLt.out _ hk; omega) HLn.out
  have HF := Lib.hid hfr
  have HM1 := Lib.hid hm1
  have hsz := hm1.size
  clear hr1 hm1 hoff1 hnil1 hS1 hfr
  go_wp2_with fail
  refine HF.out.mono ?_
  rintro e w2 ⟨rfl, hm2, fp1, hs2, hfp⟩
  have HM2 := Lib.hid ((HM1.out.mono (L1 := fp) (by simp)).trans hm2 (fun k hk => .inl hk))
  have HS2 := Lib.hid hs2
  have HFP := Lib.hid hfp
  clear hm2 hs2 hfp
  go_wp2_with fail
  go_end0
  exact ⟨rfl, HM2.out, fp1, HS2.out, fun k hk => by rcases HFP.out k hk with h | h; exact .inl h; right; omega⟩
set_option maxHeartbeats 400000 in
theorem spUndo_nil (w : World) : Calls Tryd.prog 30 #[.pointer none] w fun e w' => e = .returned (.tuple #[]) ∧ w = w' := by
  go_enter Tryd.func30, Tryd.ntmps30
  go_wp2
  go_end0
  exact ⟨rfl, rfl⟩

/-- The first k are. -/
def begun (blocks k : Nat) : List Bool := List.replicate k true ++ List.replicate (blocks - k) false
theorem begun_zero (blocks : Nat) : begun blocks 0 = List.replicate blocks false := by simp [begun]
theorem begun_length (blocks k : Nat) (h : k ≤ blocks) : (begun blocks k).length = blocks := by simp [begun]; omega
/-- A new space. -/
def Sp.new (blocks first gen last : Nat) : Sp := { first := first, used := begun blocks first, taken := List.replicate blocks false, given := List.replicate blocks false, gen := gen, last := last }
theorem begun_step (blocks first k : Nat) (hk : k < first) (hf : first ≤ blocks) : setI (begun blocks k) (k : Int) true = begun blocks (k + 1) := by
  unfold begun
  have hi : inB ((List.replicate k true ++ List.replicate (blocks - k) false).length : Int) (k : Int) = true := by simp [inB]; omega
  unfold setI
  rw [if_pos hi, Int.toNat_natCast, List.set_append, if_neg (by simp), List.length_replicate, Nat.sub_self, show blocks - k = blocks - (k + 1) + 1 from by omega, List.replicate_succ, List.set_cons_zero, List.replicate_succ']
  simp

set_option maxHeartbeats 1000000 in
theorem spNew_bad (w : World) (blocks first : Int) (gen last : Nat) (h : blocks < 1 ∨ 4096 < blocks ∨ first < 0 ∨ blocks ≤ first ∨ last < gen) :
    Calls Tryd.prog 24 #[.int .i64 blocks, .int .i64 first, .int .u64 gen, .int .u64 last] w fun e w' => e = .returned (.tuple #[.pointer none, .int .i64 2]) ∧ Mods [] w w' := by
  by_cases hb : blocks < 1 ∨ 4096 < blocks
  · have hn := Lib.hid (new_bad w blocks hb)
    clear h hb
    go_enter Tryd.func24, Tryd.ntmps24
    go_wp2_with fail
    refine hn.out.mono ?_
    rintro e w' ⟨rfl, rfl⟩
    go_wp2_with fail
    go_ret2
    exact ⟨rfl, Mods.refl _ _⟩
  · obtain ⟨n, rfl⟩ := Int.eq_ofNat_of_zero_le (show 0 ≤ blocks by omega)
    have hn := Lib.hid (new_any w n (by omega) (by omega))
    by_cases hf : first < 0
    · clear h hb
      go_enter Tryd.func24, Tryd.ntmps24
      go_wp2_with fail
      refine hn.out.mono ?_
      rintro e w1 ⟨rfl, hm, hz, hs⟩
      have HM := Lib.hid hm
      clear hm hz hs
      go_wp2_with fail
      go_ret2
      exact ⟨rfl, HM.out⟩
    · have hd : decide (first < 0) = false := by simpa using hf
      by_cases hf2 : (n : Int) ≤ first
      · clear h hb
        go_enter Tryd.func24, Tryd.ntmps24
        go_wp2_with fail
        refine hn.out.mono ?_
        rintro e w1 ⟨rfl, hm, hz, hs⟩
        have HM := Lib.hid hm
        clear hm hz hs
        go_wp2_with fail
        go_ret2
        exact ⟨rfl, HM.out⟩
      · have hd2 : decide ((n : Int) ≤ first) = false := by simpa using hf2
        have hgl : (last : Int) < (gen : Int) := by omega
        clear h hb
        go_enter Tryd.func24, Tryd.ntmps24
        go_wp2_with fail
        refine hn.out.mono ?_
        rintro e w1 ⟨rfl, hm, hz, hs⟩
        have HM := Lib.hid hm
        clear hm hz hs
        go_wp2_with fail
        go_ret2
        exact ⟨rfl, HM.out⟩

set_option maxHeartbeats 1000000 in
theorem spNew_any (w : World) (blocks first gen last : Nat) (h1 : blocks ≤ 4096) (h2 : first < blocks) (h3 : gen ≤ last) (h4 : last < 18446744073709551616) :
    Calls Tryd.prog 24 #[.int .i64 blocks, .int .i64 first, .int .u64 gen, .int .u64 last] w fun e w' => ∃ b fp, e = .returned (.tuple #[.pointer (some ⟨b, 0, none⟩), .int .i64 0]) ∧ Mods [] w w' ∧ IsSpace w' b fp (Sp.new blocks first gen last) ∧ (∀ k ∈ fp, w.heap.size ≤ k) := by
  have hn := Lib.hid (new_any w blocks (by omega) h1)
  have hd : decide ((first : Int) < 0) = false := by simp
  have hd2 : decide (blocks ≤ first) = false := by simp; omega
  have hd3 : decide (last < gen) = false := by simp; omega
  go_enter Tryd.func24, Tryd.ntmps24
  go_wp2_with fail
  refine hn.out.mono ?_
  rintro e w1 ⟨rfl, hm1, hz1, hs1⟩
  have HM1 := Lib.hid hm1
  have HS1 := Lib.hid hs1
  clear hm1 hs1
  go_wp2_with fail
  obtain ⟨W2, hW2⟩ : ∃ W2 : World, W2 = w1.alloc (.cells #[.int .i64 first, .pointer (some ⟨w.heap.size + 1, 0, none⟩), .pointer none, .pointer none, .int .u64 gen, .int .u64 last] 87) := ⟨_, rfl⟩
  have hb2 : Blk W2 (w.heap.size + 2) 87 [.int .i64 first, .pointer (some ⟨w.heap.size + 1, 0, none⟩), .pointer none, .pointer none, .int .u64 gen, .int .u64 last] := by
    rw [hW2, ← hz1]; exact Blk.new w1 87 _
  have hm2 : Mods [] w1 W2 := by rw [hW2]; exact (Mods.refl _ _).alloc _
  have hz2 : W2.heap.size = w.heap.size + 3 := by rw [hW2]; simp [hz1]
  rw [← hW2]
  have HB2 := Lib.hid hb2
  have HS2 := Lib.hid (HS1.out.keep hm2 (by simp) (by simp))
  have HM2 := Lib.hid (HM1.out.trans hm2 (by simp))
  have HZ2 := Lib.hid hz2
  clear hW2 hb2 hm2 hz1 hz2 HM1 HS1
  go_loopw [42] (fun iv wr => ∃ k : Nat, k ≤ first ∧ iv = .int .i64 k ∧ IsSet wr (w.heap.size + 1) w.heap.size (begun blocks k) ∧ Mods [w.heap.size] W2 wr) (fun iv _ => first - (intOf iv).toNat)
  case atStart => exact ⟨0, Nat.zero_le _, rfl, by rw [begun_zero]; exact HS2.out, Mods.refl _ _⟩
  case round =>
    obtain ⟨k, hk, rfl, hsk, hmk⟩ := hrel
    have HSK := Lib.hid hsk
    have HMK := Lib.hid hmk
    clear hsk hmk
    by_cases hlt : k < first
    · have hst := begun_step blocks first k hlt (by omega)
      have HST := Lib.hid hst
      clear hst
      go_wp2_with fail
      refine (put_any HSK.out _ _).mono ?_
      rintro e w3 ⟨rfl, hm3, hs3⟩
      rw [HST.out] at hs3
      have HS3 := Lib.hid hs3
      have HM3 := Lib.hid (HMK.out.trans hm3 (by simp))
      clear hs3 hm3
      go_wp2_with fail
      go_roundw
      case rel => exact ⟨k + 1, by omega, by go_num, HS3.out, HM3.out⟩
      case measure => simp [intOf]; omega
    · obtain rfl : k = first := by omega
      have hbk := HB2.out.keep HMK.out (by simp)
      have hok : (Sp.new blocks k gen last).fresh.Ok := ⟨by show k < (begun blocks k).length; rw [begun_length _ _ (by omega)]; omega, by simp [Sp.new, Sp.fresh], by simp [Sp.new, Sp.fresh], by show (begun blocks k).length ≤ _; rw [begun_length _ _ (by omega)]; omega, by show gen < _; omega, h4⟩
      have hbeg := begin_any wr (w.heap.size + 2) (w.heap.size + 1) w.heap.size (Sp.new blocks k gen last) _ _ hbk HSK.out ⟨by omega, by omega⟩ hok
      have efr : (Sp.new blocks k gen last).fresh = Sp.new blocks k gen last := by
        unfold Sp.fresh Sp.new
        simp only [begun_length blocks k (by omega)]
      rw [efr] at hbeg
      have HBeg := Lib.hid hbeg
      have hwr := HMK.out.size
      rw [HZ2.out] at hwr
      clear hbk hok hbeg efr hlt
      go_wp2_with fail
      refine HBeg.out.mono ?_
      rintro e w4 ⟨rfl, hm4, fp, hs4, hfp⟩
      have HM4 : Hid (Mods [] w w4) := (HM2.out.trans HMK.out (by simp)).trans hm4 (by simp)
      have HS4 := Lib.hid hs4
      have HFP := Lib.hid hfp
      clear hm4 hs4 hfp
      go_wp2_with fail
      go_ret2
      exact ⟨_, fp, rfl, HM4.out, HS4.out, fun k hk => by rcases HFP.out k hk with h | h | h | h <;> omega⟩
end Go.Proofs.YtahaecieklfhkaaDoor
