/- The walks of layer 10's reference, second half: begin, Take, Settle, Undo, New. -/
import Derived.Test.YtahaecieklfhkaaDoorRef1
import Derived.Test.YtahaecieklfhkaaDoorBits9
namespace Go.Proofs.YtahaecieklfhkaaDoor
open Go.RowKit

theorem Lst.made (w : World) (n : Nat) : Lst (w.alloc (.cells (madeCells #[.bool false] n) 4)) w.heap.size (List.replicate n false) := by
  refine ⟨[], ?_⟩
  have hb : Blk (w.alloc (.cells (madeCells #[.bool false] n) 4)) w.heap.size 4 (madeCells #[.bool false] n).toList := Blk.new w 4 _
  rw [toList_madeCells_one] at hb
  simpa [boolsOf] using hb

set_option maxHeartbeats 1000000 in
theorem rBegin_any {w : World} {b n bu cu : Nat} {S : Sp} {x y : Value} (h1 : Blk w b 74 [.slice (some ⟨bu, 0, none⟩) n cu, x, y, .int .i64 S.first, .int .u64 S.gen, .int .u64 S.last]) (h2 : Lst w bu S.used) (hl : S.used.length = n) (hn : n ≤ 4096) (hd : b ≠ bu) :
    Calls Tryd.prog 52 #[.pointer (some ⟨b, 0, none⟩)] w fun e w' => e = .returned (.tuple #[]) ∧ Mods [b] w w' ∧ ∃ fp, IsRef w' b fp S.fresh n ∧ (∀ k ∈ fp, k = b ∨ k = bu ∨ w.heap.size ≤ k) := by
  have c0 := h1.cell (i := 0) rfl
  have c1 := h1.cell (i := 1) rfl
  have c2 := h1.cell (i := 2) rfl
  have f1 := h1.free 1
  have f2 := h1.free 2
  have hbl := h1.lt
  have hul := h2.lt
  have hmk := run_make_row' (P := Tryd.prog) 32 4 (.bool false) 1 Tryd.underlying32 info_bool rfl .i64 .i64 n (by omega) (by omega)
  have HB := Lib.hid h1
  have HU := Lib.hid h2
  have HL := Lib.hid hl
  clear h1 h2 hl
  go_enter Tryd.func52, Tryd.ntmps52
  go_wp2_with fail
  go_end0
  obtain ⟨v1, hv1⟩ : ∃ v1 : Value, v1 = .slice (some ⟨w.heap.size, 0, none⟩) n n := ⟨_, rfl⟩
  obtain ⟨v2, hv2⟩ : ∃ v2 : Value, v2 = .slice (some ⟨w.heap.size + 1, 0, none⟩) n n := ⟨_, rfl⟩
  rw [← hv1, ← hv2]
  obtain ⟨W2, hW2⟩ : ∃ W2 : World, W2 = (w.setCell ⟨b, 1, none⟩ v1).setCell ⟨b, 2, none⟩ v2 := ⟨_, rfl⟩
  rw [← hW2]
  obtain ⟨W3, hW3⟩ : ∃ W3 : World, W3 = W2.alloc (.cells (madeCells #[.bool false] n) 4) := ⟨_, rfl⟩
  rw [← hW3]
  obtain ⟨W4, hW4⟩ : ∃ W4 : World, W4 = W3.alloc (.cells (madeCells #[.bool false] n) 4) := ⟨_, rfl⟩
  rw [← hW4]
  have hz2 : W2.heap.size = w.heap.size := by rw [hW2]; simp
  have hz3 : W3.heap.size = w.heap.size + 1 := by rw [hW3]; simp [hz2]
  have hm2 : Mods [b] w W2 := by rw [hW2]; exact ((Mods.refl _ _).setCell (.inl (by simp)) _).setCell (.inl (by simp)) _
  have hm3 : Mods [] W2 W3 := by rw [hW3]; exact (Mods.refl _ _).alloc _
  have hm4 : Mods [] W3 W4 := by rw [hW4]; exact (Mods.refl _ _).alloc _
  have hB2 : Blk W2 b 74 [.slice (some ⟨bu, 0, none⟩) n cu, v1, v2, .int .i64 S.first, .int .u64 S.gen, .int .u64 S.last] := by rw [hW2]; exact (HB.out.set 1 v1).set 2 v2
  have hT3 : Lst W3 w.heap.size (List.replicate n false) := by have := Lst.made W2 n; rw [hz2, ← hW3] at this; exact this
  have hG4 : Lst W4 (w.heap.size + 1) (List.replicate n false) := by have := Lst.made W3 n; rw [hz3, ← hW4] at this; exact this
  rw [hv1, hv2] at hB2
  refine ⟨rfl, (hm2.trans hm3 (by simp)).trans hm4 (by simp), [b, bu, w.heap.size, w.heap.size + 1], ?_, ?_⟩
  · refine ⟨bu, w.heap.size, w.heap.size + 1, cu, n, n, rfl, ?_, (hB2.keep hm3 (by simp)).keep hm4 (by simp), ((HU.out.keep hm2 (by simpa using hd.symm)).keep hm3 (by simp)).keep hm4 (by simp), ?_, ?_, HL.out, by simp [Sp.fresh, HL.out], by simp [Sp.fresh, HL.out], hn⟩
    · simp only [List.nodup_cons, List.mem_cons, List.not_mem_nil, or_false, not_or, List.nodup_nil, and_true, not_false_eq_true]; omega
    · show Lst W4 _ (List.replicate S.used.length false)
      rw [HL.out]; exact hT3.keep hm4 (by simp)
    · show Lst W4 _ (List.replicate S.used.length false)
      rw [HL.out]; exact hG4
  · intro k hk
    simp only [List.mem_cons, List.not_mem_nil, or_false] at hk
    omega

set_option maxHeartbeats 1000000 in
theorem rTake_any {w : World} {b n : Nat} {fp : List Nat} {S : Sp} (h : IsRef w b fp S n) (hlow : ∀ a, a < S.first → mem S.used a = true) :
    Calls Tryd.prog 34 #[.pointer (some ⟨b, 0, none⟩)] w fun e w' => e = .returned (.tuple #[.int .i64 (nxK S.tk : Nat), .int .i64 S.takeE]) ∧ Mods fp w w' ∧ IsRef w' b fp S.takeS n := by
  have hS := Lib.hid h
  obtain ⟨bu, bt, bg, cu, ct, cg, rfl, h0, h1, h2, h3, h4, h5⟩ := h
  have c0 := h1.cell (i := 0) rfl
  have c1 := h1.cell (i := 1) rfl
  have hn4 := h5.2.2.2
  have H0 := Lib.hid h0
  have H1 := Lib.hid h1
  have H2 := Lib.hid h2
  have H3 := Lib.hid h3
  have H4 := Lib.hid h4
  have H5 := Lib.hid h5
  have HLow := Lib.hid hlow
  clear h0 h1 h2 h3 h4 h5 hlow
  go_enter Tryd.func34, Tryd.ntmps34
  go_wp2_with fail
  go_loop [4] (fun iv => ∃ j : Nat, j ≤ n ∧ iv = .int .i64 j ∧ Hid (∀ k, k < j → mem S.used k = true)) (fun iv => n - (intOf iv).toNat)
  case atStart => exact ⟨0, Nat.zero_le _, rfl, fun k h => by omega⟩
  case round =>
    obtain ⟨j, hj, rfl, hinv⟩ := hrel
    by_cases hlt : j < n
    · have hjl : j < S.used.length := by rw [H5.out.1]; exact hlt
      have hjt : j < S.taken.length := by rw [H5.out.2.1]; exact hlt
      have cj := H2.out.cell hjl
      have fj := H2.out.free j
      have tj := H3.out.cell hjt
      have gj := H3.out.free j
      obtain ⟨x, hx⟩ : ∃ x, mem S.used j = x := ⟨_, rfl⟩
      obtain ⟨y, hy⟩ : ∃ y, mem S.taken j = y := ⟨_, rfl⟩
      rw [hx] at cj
      rw [hy] at tj
      have HX := Lib.hid hx
      clear hx hy
      cases x with
      | true =>
        have hst : Hid (∀ k, k < j + 1 → mem S.used k = true) := by
          intro k h2
          by_cases e : k = j
          · subst e; exact HX.out
          · exact hinv.out k (by omega)
        clear hjl hjt
        go_wp2_with fail
        go_round
        case rel => exact ⟨j + 1, by omega, by go_num, hst⟩
        case measure => simp [intOf]; omega
      | false =>
        have htk : S.tk = some j := by
          unfold Sp.tk
          refine nextL_some ?_ hjl HX.out (fun k _ hk => by rw [hinv.out k hk]; decide)
          apply Classical.byContradiction
          intro hn
          have := HLow.out j (by omega)
          rw [HX.out] at this; cases this
        have hts : S.takeS = { S with used := setI S.used j true, taken := setI S.taken j true } := by rw [Sp.takeS, htk]
        have hn := H0.out
        simp only [List.nodup_cons, List.mem_cons, List.not_mem_nil, or_false, not_or, List.nodup_nil, and_true, not_false_eq_true] at hn
        have hbut : bt ≠ bu := by omega
        have hbb : b ≠ bu := by omega
        have hbbt : b ≠ bt := by omega
        have m1 : Mods [bu] w (w.setCell ⟨bu, j, none⟩ (.bool true)) := (Mods.refl _ _).setCell (.inl (by simp)) _
        have m2 : Mods [bt] (w.setCell ⟨bu, j, none⟩ (.bool true)) ((w.setCell ⟨bu, j, none⟩ (.bool true)).setCell ⟨bt, j, none⟩ (.bool true)) := (Mods.refl _ _).setCell (.inl (by simp)) _
        have HF : Hid (IsRef ((w.setCell ⟨bu, j, none⟩ (.bool true)).setCell ⟨bt, j, none⟩ (.bool true)) b [b, bu, bt, bg] S.takeS n ∧ Mods [b, bu, bt, bg] w ((w.setCell ⟨bu, j, none⟩ (.bool true)).setCell ⟨bt, j, none⟩ (.bool true))) := by
          refine ⟨?_, (m1.mono (by simp)).trans m2 (by simp)⟩
          rw [hts]
          exact ⟨bu, bt, bg, cu, ct, cg, rfl, H0.out, (H1.out.keep m1 (by simp; omega)).keep m2 (by simp; omega), (H2.out.set hjl true).keep m2 (by simp; omega), (H3.out.keep m1 (by simp; omega)).set hjt true, (H4.out.keep m1 (by simp; omega)).keep m2 (by simp; omega),
            by show (setI S.used j true).length = n; rw [setI_length]; exact H5.out.1, by show (setI S.taken j true).length = n; rw [setI_length]; exact H5.out.2.1, H5.out.2.2⟩
        have HT : Hid (S.tk = some j ∧ S.takeE = 0) := ⟨htk, by rw [Sp.takeE, htk]; rfl⟩
        clear hjl hjt m1 m2 hn hts htk
        go_wp2_with fail
        go_ret2
        exact ⟨by rw [HT.out.1, HT.out.2]; rfl, HF.out.2, HF.out.1⟩
    · obtain rfl : j = n := by omega
      have htk : S.tk = none := by
        unfold Sp.tk
        exact nextL_none (fun k _ hk => by rw [hinv.out k (by have := H5.out.1; omega)]; decide)
      have hts : S.takeS = S := by rw [Sp.takeS, htk]
      have HT : Hid (S.tk = none ∧ S.takeE = 11) := ⟨htk, by rw [Sp.takeE, htk]; rfl⟩
      have HTs := Lib.hid hts
      clear htk hts
      go_wp2_with fail
      go_ret2
      exact ⟨by rw [HT.out.1, HT.out.2]; rfl, Mods.refl _ _, by rw [HTs.out]; exact hS.out⟩

set_option maxHeartbeats 1000000 in
theorem rSettle_any {w : World} {b n : Nat} {fp : List Nat} {S : Sp} (h : IsRef w b fp S n) :
    Calls Tryd.prog 38 #[.pointer (some ⟨b, 0, none⟩)] w fun e w' => e = .returned (.tuple #[]) ∧ Mods fp w w' ∧ ∃ fp1, IsRef w' b fp1 S.settleS n ∧ (∀ k ∈ fp1, k ∈ fp ∨ w.heap.size ≤ k) := by
  obtain ⟨bu, bt, bg, cu, ct, cg, rfl, h0, h1, h2, h3, h4, h5⟩ := h
  have hn4 := h5.2.2.2
  have H0 := Lib.hid h0
  have H1 := Lib.hid h1
  have H2 := Lib.hid h2
  have H3 := Lib.hid h3
  have H4 := Lib.hid h4
  have H5 := Lib.hid h5
  clear h0 h1 h2 h3 h4 h5
  go_enter Tryd.func38, Tryd.ntmps38
  go_wp2_with fail
  go_loopw [2] (fun iv wr => ∃ j : Nat, j ≤ n ∧ iv = .int .i64 j ∧ Lst wr bu (minus S.used (onTo S.given j)) ∧ Mods [bu] w wr) (fun iv _ => n - (intOf iv).toNat)
  case atStart => exact ⟨0, Nat.zero_le _, rfl, H2.out, Mods.refl _ _⟩
  case round =>
    obtain ⟨j, hj, rfl, hu, hm⟩ := hrel
    have hn := H0.out
    simp only [List.nodup_cons, List.mem_cons, List.not_mem_nil, or_false, not_or, List.nodup_nil, and_true, not_false_eq_true] at hn
    have hbb : b ≠ bu := by omega
    have hBl := H1.out.keep hm (by simp; omega)
    have hTl := H4.out.keep hm (by simp; omega)
    have c0 := hBl.cell (i := 0) rfl
    have c2 := hBl.cell (i := 2) rfl
    clear hn
    by_cases hlt : j < n
    · have hjg : j < S.given.length := by rw [H5.out.2.2.1]; exact hlt
      have gj := hTl.cell hjg
      have hlen : (minus S.used (onTo S.given j)).length = n := by rw [minus_length]; exact H5.out.1
      have fj := hu.free j
      have uj := hu.cell (k := j) (by rw [hlen]; exact hlt)
      have hset := hu.set (k := j) (by rw [hlen]; exact hlt) false
      have hsucc := onTo_succ S.given j
      obtain ⟨x, hx⟩ : ∃ x, mem S.given j = x := ⟨_, rfl⟩
      obtain ⟨y, hy⟩ : ∃ y, mem (minus S.used (onTo S.given j)) j = y := ⟨_, rfl⟩
      rw [hx] at gj hsucc
      rw [hy] at uj
      rw [← minus_snoc] at hset
      have HSet := Lib.hid hset
      have HSu := Lib.hid hsucc
      have HU := Lib.hid hu
      have HM := Lib.hid hm
      clear hset hsucc hu hm hx hy hlen hjg hBl hTl
      cases x with
      | true =>
        go_wp2_with fail
        go_roundw
        case rel => exact ⟨j + 1, by omega, by go_num, by rw [HSu.out]; exact HSet.out, HM.out.setCell (.inl (by simp)) _⟩
        case measure => simp [intOf]; omega
      | false =>
        go_wp2_with fail
        go_roundw
        case rel => exact ⟨j + 1, by omega, by go_num, by rw [HSu.out]; simpa using HU.out, HM.out⟩
        case measure => simp [intOf]; omega
    · obtain rfl : j = n := by omega
      have eo : onTo S.given j = onL S.given := by have := onTo_full S.given; rw [H5.out.2.2.1] at this; exact this
      rw [eo] at hu
      have hbeg := rBegin_any (S := { S with used := minus S.used (onL S.given) }) hBl hu (by show (minus S.used (onL S.given)).length = _; rw [minus_length]; exact H5.out.1) hn4 hbb
      have HBeg := Lib.hid hbeg
      have HM := Lib.hid hm
      have hsz := hm.size
      clear hbeg hm hu hBl hTl eo
      go_wp2_with fail
      refine HBeg.out.mono ?_
      rintro e w2 ⟨rfl, hm2, fp1, hs2, hf2⟩
      have HM2 := Lib.hid ((HM.out.mono (L1 := [b, bu, bt, bg]) (by simp)).trans hm2 (by simp))
      have HS2 := Lib.hid hs2
      have HF2 := Lib.hid hf2
      clear hm2 hs2 hf2
      go_wp2_with fail
      go_end0
      refine ⟨rfl, HM2.out, fp1, HS2.out, fun k hk => ?_⟩
      rcases HF2.out k hk with h | h | h
      · left; simp [h]
      · left; simp [h]
      · right; omega

set_option maxHeartbeats 1000000 in
theorem rUndo_any {w : World} {b n : Nat} {fp : List Nat} {S : Sp} (h : IsRef w b fp S n) :
    Calls Tryd.prog 39 #[.pointer (some ⟨b, 0, none⟩)] w fun e w' => e = .returned (.tuple #[]) ∧ Mods fp w w' ∧ ∃ fp1, IsRef w' b fp1 S.undoS n ∧ (∀ k ∈ fp1, k ∈ fp ∨ w.heap.size ≤ k) := by
  obtain ⟨bu, bt, bg, cu, ct, cg, rfl, h0, h1, h2, h3, h4, h5⟩ := h
  have hn4 := h5.2.2.2
  have H0 := Lib.hid h0
  have H1 := Lib.hid h1
  have H2 := Lib.hid h2
  have H3 := Lib.hid h3
  have H4 := Lib.hid h4
  have H5 := Lib.hid h5
  clear h0 h1 h2 h3 h4 h5
  go_enter Tryd.func39, Tryd.ntmps39
  go_wp2_with fail
  go_loopw [2] (fun iv wr => ∃ j : Nat, j ≤ n ∧ iv = .int .i64 j ∧ Lst wr bu (minus S.used (onTo S.taken j)) ∧ Mods [bu] w wr) (fun iv _ => n - (intOf iv).toNat)
  case atStart => exact ⟨0, Nat.zero_le _, rfl, H2.out, Mods.refl _ _⟩
  case round =>
    obtain ⟨j, hj, rfl, hu, hm⟩ := hrel
    have hn := H0.out
    simp only [List.nodup_cons, List.mem_cons, List.not_mem_nil, or_false, not_or, List.nodup_nil, and_true, not_false_eq_true] at hn
    have hbb : b ≠ bu := by omega
    have hBl := H1.out.keep hm (by simp; omega)
    have hTl := H3.out.keep hm (by simp; omega)
    have c0 := hBl.cell (i := 0) rfl
    have c2 := hBl.cell (i := 1) rfl
    clear hn
    by_cases hlt : j < n
    · have hjg : j < S.taken.length := by rw [H5.out.2.1]; exact hlt
      have gj := hTl.cell hjg
      have hlen : (minus S.used (onTo S.taken j)).length = n := by rw [minus_length]; exact H5.out.1
      have fj := hu.free j
      have uj := hu.cell (k := j) (by rw [hlen]; exact hlt)
      have hset := hu.set (k := j) (by rw [hlen]; exact hlt) false
      have hsucc := onTo_succ S.taken j
      obtain ⟨x, hx⟩ : ∃ x, mem S.taken j = x := ⟨_, rfl⟩
      obtain ⟨y, hy⟩ : ∃ y, mem (minus S.used (onTo S.taken j)) j = y := ⟨_, rfl⟩
      rw [hx] at gj hsucc
      rw [hy] at uj
      rw [← minus_snoc] at hset
      have HSet := Lib.hid hset
      have HSu := Lib.hid hsucc
      have HU := Lib.hid hu
      have HM := Lib.hid hm
      clear hset hsucc hu hm hx hy hlen hjg hBl hTl
      cases x with
      | true =>
        go_wp2_with fail
        go_roundw
        case rel => exact ⟨j + 1, by omega, by go_num, by rw [HSu.out]; exact HSet.out, HM.out.setCell (.inl (by simp)) _⟩
        case measure => simp [intOf]; omega
      | false =>
        go_wp2_with fail
        go_roundw
        case rel => exact ⟨j + 1, by omega, by go_num, by rw [HSu.out]; simpa using HU.out, HM.out⟩
        case measure => simp [intOf]; omega
    · obtain rfl : j = n := by omega
      have eo : onTo S.taken j = onL S.taken := by have := onTo_full S.taken; rw [H5.out.2.1] at this; exact this
      rw [eo] at hu
      have hbeg := rBegin_any (S := { S with used := minus S.used (onL S.taken) }) hBl hu (by show (minus S.used (onL S.taken)).length = _; rw [minus_length]; exact H5.out.1) hn4 hbb
      have HBeg := Lib.hid hbeg
      have HM := Lib.hid hm
      have hsz := hm.size
      clear hbeg hm hu hBl hTl eo
      go_wp2_with fail
      refine HBeg.out.mono ?_
      rintro e w2 ⟨rfl, hm2, fp1, hs2, hf2⟩
      have HM2 := Lib.hid ((HM.out.mono (L1 := [b, bu, bt, bg]) (by simp)).trans hm2 (by simp))
      have HS2 := Lib.hid hs2
      have HF2 := Lib.hid hf2
      clear hm2 hs2 hf2
      go_wp2_with fail
      go_end0
      refine ⟨rfl, HM2.out, fp1, HS2.out, fun k hk => ?_⟩
      rcases HF2.out k hk with h | h | h
      · left; simp [h]
      · left; simp [h]
      · right; omega

theorem owns_keep {w w1 : World} {base n s : Nat} {e : TypeId} {v : Value} {xs : List Value} (h : w.ownsRow base e s v n xs) {L : List Nat} (hm : Mods L w w1) (hL : ∀ g, base ≤ g → g ∉ L) : w1.ownsRow base e s v n xs := by
  refine ⟨h.1, ?_⟩
  rcases h.2 with h | ⟨g, cap, cur, h1, h2, h3, h4⟩
  · exact .inl h
  · exact .inr ⟨g, cap, cur, h1, h2, hm.keep h3 (hL g h2), h4⟩
theorem Lst.owns {w : World} {base n : Nat} {v : Value} {l : List Bool} (h : w.ownsRow base 4 1 v n (boolsOf l)) (hn : 1 ≤ n) : ∃ g cap, v = .slice (some ⟨g, 0, none⟩) n cap ∧ base ≤ g ∧ Lst w g l := by
  rcases h.2 with ⟨_, h⟩ | ⟨g, cap, cur, h1, h2, h3, h4, h5, h6, h7⟩
  · omega
  · refine ⟨g, cap, h1, h2, cur.toList.drop (n * 1), ?_⟩
    rw [← h7, List.take_append_drop]
    show w.heap[g]? = _
    rw [h3]
theorem owns_slice {w : World} {base n : Nat} {v : Value} {xs : List Value} (h : w.ownsRow base 4 1 v (n + 1) xs) : ∃ g cap, v = .slice (some ⟨g, 0, none⟩) (n + 1) cap := by
  rcases h.2 with ⟨_, h⟩ | ⟨g, cap, cur, h1, _⟩
  · omega
  · exact ⟨g, cap, h1⟩
theorem begun_range (n first : Nat) (h : first ≤ n) : (List.range n).map (fun i => decide (i < first)) = begun n first := by
  unfold begun
  apply List.ext_getElem
  · simp; omega
  · intro i h1 h2
    simp only [List.getElem_map, List.getElem_range]
    by_cases hi : i < first
    · rw [List.getElem_append_left (by simpa using hi)]; simp [hi]
    · rw [List.getElem_append_right (by simpa using hi)]; simp [hi]

set_option maxHeartbeats 2000000 in
theorem rNew_any (w : World) (n first gen last : Nat) (h1 : 1 ≤ n) (h2 : n ≤ 4096) (h3 : first < n) :
    Calls Tryd.prog 33 #[.int .i64 n, .int .i64 first, .int .u64 gen, .int .u64 last] w fun e w' => ∃ b fp, e = .returned (.pointer (some ⟨b, 0, none⟩)) ∧ Mods [] w w' ∧ IsRef w' b fp (Sp.new n first gen last) n ∧ (∀ k ∈ fp, w.heap.size ≤ k) := by
  obtain ⟨i0, hi0, hz0, hz1, hz2⟩ := info_parts info_bool
  go_enter Tryd.func33, Tryd.ntmps33
  go_wp2_with fail
  obtain ⟨b, hb⟩ : ∃ b, w.heap.size = b := ⟨_, rfl⟩
  rw [hb]
  obtain ⟨W1, hW1⟩ : ∃ W1 : World, W1 = w.alloc (.cells #[.slice none 0 0, .slice none 0 0, .slice none 0 0, .int .i64 first, .int .u64 gen, .int .u64 last] 74) := ⟨_, rfl⟩
  rw [← hW1]
  have hB1 : Blk W1 b 74 [.slice none 0 0, .slice none 0 0, .slice none 0 0, .int .i64 first, .int .u64 gen, .int .u64 last] := by rw [hW1, ← hb]; exact Blk.new w 74 _
  have hm1 : Mods [] w W1 := by rw [hW1]; exact (Mods.refl _ _).alloc _
  have HB1 := Lib.hid hB1
  have HM1 := Lib.hid hm1
  clear hW1 hB1 hm1
  go_loopw [10] (fun iv wr => ∃ i : Nat, i ≤ n ∧ iv = .int .i64 i ∧ ∃ v, Blk wr b 74 [v, .slice none 0 0, .slice none 0 0, .int .i64 first, .int .u64 gen, .int .u64 last] ∧ wr.ownsRow (b + 1) 4 1 v i (boolsOf ((List.range i).map fun i => decide (i < first))) ∧ Mods [] w wr) (fun iv _ => n - (intOf iv).toNat)
  case atStart => exact ⟨0, Nat.zero_le _, rfl, _, HB1.out, World.ownsRow_nil _ _ _ _, HM1.out⟩
  case round =>
    obtain ⟨i, hi, rfl, v, hB, hO, hM⟩ := hrel
    clear HB1 HM1
    have c0 := hB.cell (i := 0) rfl
    have hbl := hB.lt
    have HB := Lib.hid hB
    have HO := Lib.hid hO
    have HM := Lib.hid hM
    clear hB hO hM
    by_cases hlt : i < n
    · obtain ⟨x, hx⟩ : ∃ x, decide (i < first) = x := ⟨_, rfl⟩
      have HX := Lib.hid hx
      go_wp2_with (at_builtin; refine wpList_append_own _ rfl (.tmp 25) (.tmp 29) 32 rfl (b + 1) 4 i0 (.bool false) 1 1 Tryd.underlying32 hi0 hz0 hz1 hz2 rfl (by decide) _ _ _ rfl (HO.out.alloc _) ⟨wr.heap.size, 0, none⟩ 1 1 [.bool x] rfl rfl (cell_one_new _ _ _) (by simp [Value.oneCell']) (by unfold maxLen; omega) (by omega) (by simp; omega) ?_; intro v1 w1 hown1 hg1 _; obtain ⟨g1, cap1, rfl⟩ := owns_slice hown1; have hB1 : Blk w1 b 74 [v, .slice none 0 0, .slice none 0 0, .int .i64 first, .int .u64 gen, .int .u64 last] := (hg1.block b (by simp; omega) (fun e => by have := (HO.out.lt b e.symm).1; omega)).trans (HB.out.alloc _); have k0 := hB1.cell (i := 0) rfl; have kf := hB1.free 0; have HB1 := Lib.hid hB1; have HG1 := Lib.hid hg1; have HO1 := Lib.hid hown1; clear hB1 hown1 hg1)
      have HM1 : Hid (Mods [] w w1) := (HM.out.alloc _).grown HG1.out (fun q hq => .inr (by have := (HO.out.lt q hq).1; omega))
      go_wp2_with fail
      go_roundw
      case rel =>
        refine ⟨i + 1, by omega, by go_num, _, HB1.out.set 0 _, ?_, HM1.out.setCell (.inr (by simp; omega)) _⟩
        have h := owns_keep HO1.out ((Mods.refl [b] w1).setCell (p := ⟨b, 0, none⟩) (.inl (by simp)) (.slice (some ⟨g1, 0, none⟩) (i + 1) cap1)) (fun g hg => by simp; omega)
        have e : boolsOf ((List.range (i + 1)).map fun i => decide (i < first)) = boolsOf ((List.range i).map fun i => decide (i < first)) ++ [.bool x] := by
          rw [List.range_succ, List.map_append]
          unfold boolsOf
          rw [List.map_append, ← HX.out]; rfl
        rw [e]
        exact h
      case measure => simp [intOf]; omega
    · obtain rfl : i = n := by omega
      rw [begun_range i first (by omega)] at HO
      obtain ⟨g, cap, rfl, hg, hL⟩ := Lst.owns HO.out h1
      have hbeg := rBegin_any (S := Sp.new i first gen last) HB.out hL (by show (begun i first).length = i; exact begun_length i first (by omega)) h2 (by omega)
      have hfr : (Sp.new i first gen last).fresh = Sp.new i first gen last := by
        unfold Sp.fresh Sp.new
        simp only [begun_length i first (by omega)]
      rw [hfr] at hbeg
      have HBeg := Lib.hid hbeg
      clear hbeg hfr hL HO
      go_wp2_with fail
      refine HBeg.out.mono ?_
      rintro e w2 ⟨rfl, hm2, fp, hs2, hf2⟩
      have HM2 := Lib.hid (HM.out.trans hm2 (by simp; omega))
      have HS2 := Lib.hid hs2
      have HF2 := Lib.hid hf2
      have hsz := HM.out.size
      clear hm2 hs2 hf2
      go_wp2_with fail
      go_ret
      exact ⟨b, fp, rfl, HM2.out, HS2.out, fun k hk => by have := HF2.out k hk; omega⟩
end Go.Proofs.YtahaecieklfhkaaDoor
