/- The model's Scan, Equal, Copy. -/
import Derived.Test.YtahaecieklfhkaaModel5
namespace Go.Proofs.Ytahaecieklfhkaa
open Go.RowKit

theorem keys_any (mb : Option Nat) (W : World) : Calls Try.prog 41 #[.map mb] W fun e w' => e = .returned (.func (.func 56) #[] #[.pointer (some ⟨W.heap.size, 0, none⟩)]) ∧ W.alloc (.cells #[.map mb] 92) = w' :=
  (callsIn_wide.1 (keys_call mb W)).mono fun _ _ h => ⟨h.1, h.2.symm⟩
theorem enc_keys (E : Ents) : (E.map fun e => e.1.data.toList).map encStr = E.map fun e => Value.string e.1 := by
  rw [List.map_map]
  apply List.map_congr_left
  intro e _
  show Value.string ⟨e.1.data.toList.toArray⟩ = _
  rw [Array.toArray_toList]
theorem Below.mods {W w w1 : World} (h : Below W.heap.size w w1) (hw : W.heap.size = w.heap.size) : Mods [] w w1 := by
  rw [hw] at h
  exact Mods.of_below h []
theorem sorted_any {W : World} {b mb : Nat} {E : Ents} (h : IsM W b mb E) (hsm : E.length < 1000000) :
    Calls Try.prog 40 #[.func (.func 56) #[] #[.pointer (some ⟨W.heap.size, 0, none⟩)]] (W.alloc (.cells #[.map (some mb)] 92)) fun e w' => ∃ A cap, e = .returned (.slice A E.length cap) ∧ Row w' A (E.map fun e => Value.string e.1) ∧ Mods [] W w' := by
  obtain ⟨D, hown, hp, hs⟩ := owns_of_mapK h.map h.up (fun e he => Nat.le_trans (h.key e he).1 (by decide)) (by unfold maxLen; omega)
  refine (callsIn_wide.1 (sorted_call mb E.length D _ W hown (by rw [hs]; unfold maxLen; omega) (by rw [hs]; omega))).mono ?_
  rintro e w' ⟨v, ss, rfl, hS, hrow, hnil, hb⟩
  have hpe := hS.trans hp
  rw [sorted_keys h.up hpe, enc_keys] at hrow
  have hl : ss.length = E.length := by have := hpe.length_eq; simpa using this
  rw [hl] at hrow
  obtain ⟨A, cap, rfl, hr, _⟩ := row_of_owns hrow
  exact ⟨A, cap, rfl, hr, ((Mods.refl _ _).alloc _).trans (Mods.of_below hb []) (by simp)⟩
theorem owns2 {w : World} {base n : Nat} {e : TypeId} {u : Value} {xs : List Value} (h : w.ownsRow base e 2 u n xs) :
    ∃ A cap, u = .slice A n cap ∧ Row w A xs ∧ n ≤ cap ∧ (∀ a, A = some a → base ≤ a.block) := by
  have hc := fun g hg => h.cells (g := g) hg
  obtain ⟨k1, k2⟩ := h
  rcases k2 with ⟨rfl, rfl⟩ | ⟨g, cap, cur, rfl, hb, _, hn, _⟩
  · exact ⟨none, 0, rfl, .inl (List.eq_nil_of_length_eq_zero (by simpa using k1)), Nat.le_refl _, fun a ha => by cases ha⟩
  · refine ⟨_, cap, rfl, .inr ⟨g, 0, rfl, fun i u hi => ?_⟩, hn, fun a ha => by cases ha; exact hb⟩
    have := hc g rfl i u hi
    rw [addr_add0] at this
    rw [Nat.zero_add]; exact this
theorem owns2_base {w : World} {base base1 n : Nat} {e : TypeId} {u : Value} {xs : List Value} (h : w.ownsRow base e 2 u n xs) (hb : base1 ≤ base) : w.ownsRow base1 e 2 u n xs := by
  obtain ⟨k1, k2⟩ := h
  refine ⟨k1, ?_⟩
  rcases k2 with k2 | ⟨g, cap, cur, a1, a2, a3⟩
  · exact .inl k2
  · exact .inr ⟨g, cap, cur, a1, Nat.le_trans hb a2, a3⟩
theorem scan_len (E : Ents) (low high : ByteArray) (most : Int) : (scanE E low high most).length ≤ E.length := by
  unfold scanE
  rw [List.length_take]
  have : (E.filter (within low high)).length ≤ E.length := List.length_filter_le _ _
  omega
set_option maxRecDepth 100000 in
set_option maxHeartbeats 6400000 in
theorem mScan_to {W : World} {b mb : Nat} {E : Ents} (h : IsM W b mb E) (hsm : E.length < 1000000) (low high : ByteArray) (hh : high.size ≠ 0) (most : Int) :
    Calls Try.prog 13 #[.pointer (some ⟨b, 0, none⟩), .string low, .string high, .int .i64 most] W fun e w' =>
      ∃ u, e = .returned u ∧ w'.ownsRow W.heap.size 42 2 u (scanE E low high most).length (eRow (scanE E low high most)) ∧ Mods [] W w' := by
  have c0 := h.blk.cell (i := 0) rfl
  have hso := Lib.hid (sorted_any h hsm)
  have HI := Lib.hid h
  obtain ⟨i0, hi0, hz0, hz1, hz2⟩ := info_parts info_entry
  obtain ⟨L, hL⟩ : ∃ L, E.length = L := ⟨_, rfl⟩
  rw [hL] at hso hsm
  have HL := Lib.hid hL
  clear h hL
  go_enter Try.func13, Try.ntmps13
  go_wp2_with fail
  refine (keys_any _ _).mono ?_
  rintro x w1 ⟨rfl, hw1⟩
  rw [hw1] at hso
  go_wp2_with fail
  refine hso.out.mono ?_
  rintro x w2 ⟨B, cap, rfl, hrow, hm2⟩
  have HR := Lib.hid hrow
  have HM2 := Lib.hid hm2
  have HI2 := Lib.hid (HI.out.keep hm2 (by simp) (by simp))
  clear hrow hm2 hso hw1 c0
  go_wp2_with fail
  go_loopw [9, 21] (fun ov iv wr => ∃ k : Nat, k ≤ L ∧ iv = .int .i64 k ∧ wr.ownsRow w2.heap.size 42 2 ov (scanE (E.take k) low high most).length (eRow (scanE (E.take k) low high most)) ∧ Mods [] w2 wr) (fun _ iv _ => L - (intOf iv).toNat)
  case atStart => exact ⟨0, Nat.zero_le _, rfl, by simpa [scanE, eRow] using World.ownsRow_nil _ _ _ _, Mods.refl _ _⟩
  case round =>
    obtain ⟨k, hk, rfl, hown, hm⟩ := hrel
    have HO := Lib.hid hown
    clear hown
    by_cases hkl : k < L
    · obtain ⟨x, hx⟩ : ∃ x, E[k]? = some x := ⟨_, List.getElem?_eq_getElem (by rw [HL.out]; exact hkl)⟩
      obtain ⟨bb, ob, rfl, hcb⟩ := (HR.out.keep hm (fun _ _ => by simp)).at (i := k) (u := .string x.1) (by rw [List.getElem?_map, hx]; rfl)
      have HIw := Lib.hid (HI2.out.keep hm (by simp) (by simp))
      have c0 := HIw.out.blk.cell (i := 0) rfl
      have hlk := HIw.out.look1 x.1
      have hgx : getE E x.1 = some x.2 := (getE_iff HI.out.up).2 (List.mem_of_getElem? hx)
      rw [hgx, Option.getD_some] at hlk
      have ht : E.take (k + 1) = E.take k ++ [x] := by rw [List.take_add_one, hx]; rfl
      have hs := scan_step (E.take k) x low high most
      rw [← ht] at hs
      have hsl := scan_len (E.take k) low high most
      rw [List.length_take] at hsl
      obtain ⟨P, hP⟩ : ∃ P, scanE (E.take k) low high most = P := ⟨_, rfl⟩
      rw [hP] at hs hsl HO
      obtain ⟨pl, hpl⟩ : ∃ pl, P.length = pl := ⟨_, rfl⟩
      rw [hpl] at hs hsl HO
      have HS := Lib.hid (And.intro hs hpl)
      have HM := Lib.hid hm
      have hsz := hm.size
      clear hm hx ht hs hgx hP hpl
      --A
      obtain ⟨oa, oc, rfl, _⟩ := owns2 HO.out
      cases h1 : Op.bytesLess x.1.toList low.toList with
      | true =>
        have hw : ¬ (within low high x = true ∧ (pl : Int) < most) := by
          rintro ⟨e, _⟩; unfold within blt at e; rw [h1] at e; cases e
        have hs2 := HS.out.1
        rw [if_neg hw] at hs2
        have HS2 := Lib.hid hs2
        clear hs2 hw
        go_wp2_with fail
        go_roundw
        case rel => exact ⟨k + 1, by omega, by simp, by rw [HS2.out, HS.out.2]; exact HO.out, HM.out⟩
        case measure => simp [intOf]; omega
      | false =>
        by_cases hmost : (pl : Int) < most
        · have he := empty_not hh
          have he2 : ¬ high = ByteArray.empty := fun e => hh ((empty_iff high).1 e)
          cases h2 : Op.bytesLess x.1.toList high.toList with
          | true =>
            have hw : within low high x = true ∧ (pl : Int) < most := by
              refine ⟨?_, hmost⟩; unfold within blt; rw [h1, h2]; simp
            have hs2 := HS.out.1
            rw [if_pos hw] at hs2
            have HS2 := Lib.hid hs2
            clear hs2 hw
            go_wp2_with (at_builtin; refine wpList_append_own _ rfl (.tmp 43) (.tmp 52) 36 rfl w2.heap.size 42 i0 (.agg #[.string ⟨#[]⟩, .string ⟨#[]⟩]) 2 32 Try.underlying36 hi0 hz0 hz1 hz2 rfl (by decide) _ _ _ rfl (HO.out.alloc _) ⟨wr.heap.size, 0, none⟩ 1 1 (ecells x) rfl rfl (fun j u hj => by rw [addr_add0]; exact (Blk.new wr 42 (ecells x)).cell hj) (by simp [ecells, Value.oneCell']) (by unfold maxLen; omega) (by omega) (by simp; omega) ?_; intro v1 w4 hown1 hg1 _)
            have hm4 : Mods [] w2 w4 := (HM.out.alloc _).grown hg1 (fun q hq => .inr (HO.out.lt q hq).1)
            have HO1 := Lib.hid hown1
            clear hown1 hg1
            go_roundw
            case rel =>
              refine ⟨k + 1, by omega, by go_num, ?_, hm4⟩
              have e1 : eRow (P ++ [x]) = eRow P ++ ecells x := by unfold eRow; simp
              rw [HS2.out, List.length_append, List.length_singleton, HS.out.2, e1]
              exact HO1.out
            case measure => simp [intOf]; omega
          | false =>
            have hw : ¬ (within low high x = true ∧ (pl : Int) < most) := by
              rintro ⟨e, _⟩; unfold within blt at e; rw [h1, h2] at e; simp [hh] at e
            have hs2 := HS.out.1
            rw [if_neg hw] at hs2
            have HS2 := Lib.hid hs2
            clear hs2 hw
            go_wp2_with fail
            go_roundw
            case rel => exact ⟨k + 1, by omega, by simp, by rw [HS2.out, HS.out.2]; exact HO.out, HM.out⟩
            case measure => simp [intOf]; omega
        · have he := empty_not hh
          have he2 : ¬ high = ByteArray.empty := fun e => hh ((empty_iff high).1 e)
          cases h2 : Op.bytesLess x.1.toList high.toList with
          | true =>
            have hw : ¬ (within low high x = true ∧ (pl : Int) < most) := by
              rintro ⟨_, e⟩; exact hmost e
            have hs2 := HS.out.1
            rw [if_neg hw] at hs2
            have HS2 := Lib.hid hs2
            clear hs2 hw
            go_wp2_with fail
            go_roundw
            case rel => exact ⟨k + 1, by omega, by simp, by rw [HS2.out, HS.out.2]; exact HO.out, HM.out⟩
            case measure => simp [intOf]; omega
          | false =>
            have hw : ¬ (within low high x = true ∧ (pl : Int) < most) := by
              rintro ⟨_, e⟩; exact hmost e
            have hs2 := HS.out.1
            rw [if_neg hw] at hs2
            have HS2 := Lib.hid hs2
            clear hs2 hw
            go_wp2_with fail
            go_roundw
            case rel => exact ⟨k + 1, by omega, by simp, by rw [HS2.out, HS.out.2]; exact HO.out, HM.out⟩
            case measure => simp [intOf]; omega
    · obtain rfl : k = L := by omega
      rw [List.take_of_length_le (Nat.le_of_eq HL.out)] at HO
      have HM := Lib.hid hm
      clear hm
      go_wp2_with fail
      go_ret
      exact ⟨_, rfl, owns2_base HO.out HM2.out.size, HM2.out.trans HM.out (by simp)⟩
set_option maxRecDepth 100000 in
set_option maxHeartbeats 6400000 in
theorem mScan_all {W : World} {b mb : Nat} {E : Ents} (h : IsM W b mb E) (hsm : E.length < 1000000) (low : ByteArray) (most : Int) :
    Calls Try.prog 13 #[.pointer (some ⟨b, 0, none⟩), .string low, .string ⟨#[]⟩, .int .i64 most] W fun e w' =>
      ∃ u, e = .returned u ∧ w'.ownsRow W.heap.size 42 2 u (scanE E low ⟨#[]⟩ most).length (eRow (scanE E low ⟨#[]⟩ most)) ∧ Mods [] W w' := by
  have c0 := h.blk.cell (i := 0) rfl
  have hso := Lib.hid (sorted_any h hsm)
  have HI := Lib.hid h
  obtain ⟨i0, hi0, hz0, hz1, hz2⟩ := info_parts info_entry
  obtain ⟨L, hL⟩ : ∃ L, E.length = L := ⟨_, rfl⟩
  rw [hL] at hso hsm
  have HL := Lib.hid hL
  clear h hL
  go_enter Try.func13, Try.ntmps13
  go_wp2_with fail
  refine (keys_any _ _).mono ?_
  rintro x w1 ⟨rfl, hw1⟩
  rw [hw1] at hso
  go_wp2_with fail
  refine hso.out.mono ?_
  rintro x w2 ⟨B, cap, rfl, hrow, hm2⟩
  have HR := Lib.hid hrow
  have HM2 := Lib.hid hm2
  have HI2 := Lib.hid (HI.out.keep hm2 (by simp) (by simp))
  clear hrow hm2 hso hw1 c0
  go_wp2_with fail
  go_loopw [9, 21] (fun ov iv wr => ∃ k : Nat, k ≤ L ∧ iv = .int .i64 k ∧ wr.ownsRow w2.heap.size 42 2 ov (scanE (E.take k) low ⟨#[]⟩ most).length (eRow (scanE (E.take k) low ⟨#[]⟩ most)) ∧ Mods [] w2 wr) (fun _ iv _ => L - (intOf iv).toNat)
  case atStart => exact ⟨0, Nat.zero_le _, rfl, by simpa [scanE, eRow] using World.ownsRow_nil _ _ _ _, Mods.refl _ _⟩
  case round =>
    obtain ⟨k, hk, rfl, hown, hm⟩ := hrel
    have HO := Lib.hid hown
    clear hown
    by_cases hkl : k < L
    · obtain ⟨x, hx⟩ : ∃ x, E[k]? = some x := ⟨_, List.getElem?_eq_getElem (by rw [HL.out]; exact hkl)⟩
      obtain ⟨bb, ob, rfl, hcb⟩ := (HR.out.keep hm (fun _ _ => by simp)).at (i := k) (u := .string x.1) (by rw [List.getElem?_map, hx]; rfl)
      have HIw := Lib.hid (HI2.out.keep hm (by simp) (by simp))
      have c0 := HIw.out.blk.cell (i := 0) rfl
      have hlk := HIw.out.look1 x.1
      have hgx : getE E x.1 = some x.2 := (getE_iff HI.out.up).2 (List.mem_of_getElem? hx)
      rw [hgx, Option.getD_some] at hlk
      have ht : E.take (k + 1) = E.take k ++ [x] := by rw [List.take_add_one, hx]; rfl
      have hs := scan_step (E.take k) x low ⟨#[]⟩ most
      rw [← ht] at hs
      have hsl := scan_len (E.take k) low ⟨#[]⟩ most
      rw [List.length_take] at hsl
      obtain ⟨P, hP⟩ : ∃ P, scanE (E.take k) low ⟨#[]⟩ most = P := ⟨_, rfl⟩
      rw [hP] at hs hsl HO
      obtain ⟨pl, hpl⟩ : ∃ pl, P.length = pl := ⟨_, rfl⟩
      rw [hpl] at hs hsl HO
      have HS := Lib.hid (And.intro hs hpl)
      have HM := Lib.hid hm
      have hsz := hm.size
      clear hm hx ht hs hgx hP hpl
      --B
      obtain ⟨oa, oc, rfl, _⟩ := owns2 HO.out
      cases h1 : Op.bytesLess x.1.toList low.toList with
      | true =>
        have hw : ¬ (within low ⟨#[]⟩ x = true ∧ (pl : Int) < most) := by
          rintro ⟨e, _⟩; unfold within blt at e; rw [h1] at e; cases e
        have hs2 := HS.out.1
        rw [if_neg hw] at hs2
        have HS2 := Lib.hid hs2
        clear hs2 hw
        go_wp2_with fail
        go_roundw
        case rel => exact ⟨k + 1, by omega, by simp, by rw [HS2.out, HS.out.2]; exact HO.out, HM.out⟩
        case measure => simp [intOf]; omega
      | false =>
        by_cases hmost : (pl : Int) < most
        ·
          have hw : within low ⟨#[]⟩ x = true ∧ (pl : Int) < most := by
            refine ⟨?_, hmost⟩; unfold within blt; rw [h1]; rfl
          have hs2 := HS.out.1
          rw [if_pos hw] at hs2
          have HS2 := Lib.hid hs2
          clear hs2 hw
          go_wp2_with (at_builtin; refine wpList_append_own _ rfl (.tmp 43) (.tmp 52) 36 rfl w2.heap.size 42 i0 (.agg #[.string ⟨#[]⟩, .string ⟨#[]⟩]) 2 32 Try.underlying36 hi0 hz0 hz1 hz2 rfl (by decide) _ _ _ rfl (HO.out.alloc _) ⟨wr.heap.size, 0, none⟩ 1 1 (ecells x) rfl rfl (fun j u hj => by rw [addr_add0]; exact (Blk.new wr 42 (ecells x)).cell hj) (by simp [ecells, Value.oneCell']) (by unfold maxLen; omega) (by omega) (by simp; omega) ?_; intro v1 w4 hown1 hg1 _)
          have hm4 : Mods [] w2 w4 := (HM.out.alloc _).grown hg1 (fun q hq => .inr (HO.out.lt q hq).1)
          have HO1 := Lib.hid hown1
          clear hown1 hg1
          go_roundw
          case rel =>
            refine ⟨k + 1, by omega, by go_num, ?_, hm4⟩
            have e1 : eRow (P ++ [x]) = eRow P ++ ecells x := by unfold eRow; simp
            rw [HS2.out, List.length_append, List.length_singleton, HS.out.2, e1]
            exact HO1.out
          case measure => simp [intOf]; omega
        ·
          have hw : ¬ (within low ⟨#[]⟩ x = true ∧ (pl : Int) < most) := by
            rintro ⟨_, e⟩; exact hmost e
          have hs2 := HS.out.1
          rw [if_neg hw] at hs2
          have HS2 := Lib.hid hs2
          clear hs2 hw
          go_wp2_with fail
          go_roundw
          case rel => exact ⟨k + 1, by omega, by simp, by rw [HS2.out, HS.out.2]; exact HO.out, HM.out⟩
          case measure => simp [intOf]; omega
    · obtain rfl : k = L := by omega
      rw [List.take_of_length_le (Nat.le_of_eq HL.out)] at HO
      have HM := Lib.hid hm
      clear hm
      go_wp2_with fail
      go_ret
      exact ⟨_, rfl, owns2_base HO.out HM2.out.size, HM2.out.trans HM.out (by simp)⟩
theorem mScan_any {W : World} {b mb : Nat} {E : Ents} (h : IsM W b mb E) (hsm : E.length < 1000000) (low high : ByteArray) (most : Int) :
    Calls Try.prog 13 #[.pointer (some ⟨b, 0, none⟩), .string low, .string high, .int .i64 most] W fun e w' =>
      ∃ u, e = .returned u ∧ w'.ownsRow W.heap.size 42 2 u (scanE E low high most).length (eRow (scanE E low high most)) ∧ Mods [] W w' := by
  by_cases hh : high.size = 0
  · obtain rfl : high = ⟨#[]⟩ := (empty_iff high).2 hh
    exact mScan_all h hsm low most
  · exact mScan_to h hsm low high hh most
end Go.Proofs.Ytahaecieklfhkaa
