/- slices.SortedFunc at the cache's order; the cache's List. -/
import Derived.Test.YtahaecieklfhkaaSeq3
namespace Go.Proofs.Ytahaecieklfhkaa
open Go.RowKit Go.Shelf Go.Maps

theorem run_sort_none (p : Option Addr) (cap : Nat) (fv : Value) (w : World) : Calls Try.prog 61 #[.slice p 0 cap, fv] w fun e w' => e = .returned (.tuple #[]) ∧ w' = w := by
  have h := AnyF.slices_SortFunc_none { Try.sortS with } p cap fv w
  change Calls Try.prog 61 _ _ _ at h
  exact h

/-- The sorted slots, in a row of one's own. -/
def SortedW (w w' : World) (D : List Ent) (u : Value) : Prop :=
  Mods [] w w' ∧ ((D = [] ∧ u = .slice none 0 0) ∨ ∃ g cap, u = .slice (some ⟨g, 0, none⟩) D.length cap ∧ ∀ (j : Nat) e, D[j]? = some e → w'.cell? ⟨g, j, none⟩ = some (.pointer (some ⟨e.blk, 0, none⟩)))

set_option maxHeartbeats 800000 in
theorem sortedF_any {w : World} {v : Value} {E D : List Ent} (h : OrdW w v E) (hsm : E.length < 1000000) {Bs : Nat} (hBs : w.cell? ⟨Bs, 0, none⟩ = some v) (hD : D.Perm E) (hs : D.Pairwise (fun x y => y.used < x.used)) :
    Calls Try.prog 46 #[.func (.func 62) #[] #[.pointer (some ⟨Bs, 0, none⟩)], .func (.func 48) #[] #[]] w fun x w' => ∃ u, x = .returned u ∧ SortedW w w' D u := by
  have hc := Lib.hid (collect_order h hsm hBs)
  have H := Lib.hid h
  have HD := Lib.hid (And.intro hD hs)
  clear h hD hs
  go_enter Try.func46, Try.ntmps46
  go_wp2_with fail
  refine hc.out.mono ?_
  rintro x w1 ⟨u, rfl, hrow, hnil, hb⟩
  have hm1 : Mods [] w w1 := Mods.of_below hb []
  by_cases hE : E = []
  · obtain rfl := hnil.2 hE
    have HN := Lib.hid (run_sort_none none 0 (.func (.func 48) #[] #[]) w1)
    have HF : Hid (SortedW w w1 D (.slice none 0 0)) := ⟨hm1, .inl ⟨by have := HD.out.1.length_eq; rw [hE] at this; exact List.eq_nil_of_length_eq_zero this, rfl⟩⟩
    clear hrow hnil hb hm1 hE
    go_wp2_with fail
    refine HN.out.mono ?_
    rintro x w2 ⟨rfl, rfl⟩
    go_wp2_with fail
    go_ret
    exact ⟨_, rfl, HF.out⟩
  · obtain ⟨k1, k2⟩ := hrow
    rcases k2 with ⟨hu, _⟩ | ⟨g, cap, cur, rfl, hgb, hk⟩
    · exact absurd (hnil.1 hu) hE
    have hrow0 : w1.ownsRow 0 112 1 (.slice (some ⟨g, 0, none⟩) E.length cap) E.length (E.map Ent.ptr) := ⟨k1, .inr ⟨g, cap, cur, rfl, Nat.zero_le _, hk⟩⟩
    have hlt := H.out.lt
    have hso := Lib.hid (sortF_any (D := D) hE hsm hrow0 (fun e he => by
      obtain ⟨j, hj⟩ := List.getElem?_of_mem he
      exact ((H.out.slot j e hj).keep hm1 (by simp)).cell (i := 5) rfl) (fun e he => by
      have := hlt e.blk (List.mem_append_right _ (List.mem_map.2 ⟨e, he, rfl⟩))
      omega) HD.out.1 HD.out.2)
    have HM := Lib.hid (And.intro hm1 hgb)
    have hlen := HD.out.1.length_eq
    clear hrow0 k1 hk hnil hb hm1 hE hlt
    generalize hEn : E.length = n at *
    go_wp2_with fail
    refine hso.out.mono ?_
    rintro x w2 ⟨rfl, hm2, hcells⟩
    have HF : Hid (SortedW w w2 D (.slice (some ⟨g, 0, none⟩) n cap)) := ⟨HM.out.1.trans hm2 (fun k hk => .inr (by rw [List.mem_singleton.1 hk]; exact HM.out.2)), .inr ⟨g, cap, by rw [hlen], hcells⟩⟩
    clear hm2 hcells
    go_wp2_with fail
    go_ret
    exact ⟨_, rfl, HF.out⟩

theorem info_intB : (Try.prog.info? 3).map (fun i => (i.zero, i.size, i.bytes)) = some (some (.int .i64 0), 1, 8) := by kernel_rfl
def addrsOf (D : List Ent) : List Value := D.map fun e => Value.int .i64 e.addr

set_option maxRecDepth 100000 in
set_option maxHeartbeats 1600000 in
theorem cList_any {w : World} {b : Nat} {fp : List Nat} {n : Nat} {R : List Kept} {c0 c1 t : Nat} (h : IsC w b fp n R c0 c1 t) :
    Calls Try.prog 21 #[.pointer (some ⟨b, 0, none⟩)] w fun e w' => ∃ u, e = .returned u ∧ w'.ownsRow w.heap.size 3 1 u R.length (R.map fun x => Value.int .i64 x.addr) ∧ Mods [] w w' ∧ (R = [] → u = .slice none 0 0) := by
  obtain ⟨S, ⟨mb, v, rfl, hnd, hB, hM, hO, hok⟩, hs, ⟨D, hD, hDs, rfl⟩, h0, h1, hti⟩ := h
  have hsmE : S.E.length < 1000000 := by have := hok.len; have := hok.slo; omega
  have hlen := hD.length_eq
  have hsmD : D.length < 1000000 := by omega
  have c2 := hB.cell (i := 2) (v := v) rfl
  have HO := Lib.hid hO
  have HD := Lib.hid (And.intro hD hDs)
  have e1 : (D.map Ent.body).map (fun x => Value.int .i64 x.addr) = addrsOf D := by rw [List.map_map]; rfl
  have e2 : D.map Ent.body = [] ↔ D = [] := by simp
  rw [e1, List.length_map]
  simp only [e2]
  obtain ⟨sa, sn, sc, rfl⟩ : ∃ sa sn sc, v = .slice sa sn sc := by
    rcases hO with ⟨rfl, _⟩ | ⟨g, cap, rfl, _⟩
    · exact ⟨_, _, _, rfl⟩
    · exact ⟨_, _, _, rfl⟩
  have hvl := Lib.hid (values_any sa sn sc w)
  obtain ⟨i0, hi0, hz0, hz1, hz2⟩ := info_parts info_intB
  clear hnd hB hM hO hok hs h0 h1 hti hD hDs e1 e2
  go_enter Try.func21, Try.ntmps21
  go_wp2_with fail
  refine hvl.out.mono ?_
  rintro x w1 ⟨rfl, hw1⟩
  have hm1 : Mods [] w w1 := by rw [hw1]; exact (Mods.refl _ _).alloc _
  have hbox : w1.cell? ⟨w.heap.size, 0, none⟩ = some (.slice sa sn sc) := by rw [hw1]; exact (Blk.new w 107 [.slice sa sn sc]).cell rfl
  have hso := Lib.hid (sortedF_any (HO.out.keep hm1 (by simp)) hsmE hbox HD.out.1 HD.out.2)
  have HM1 := Lib.hid hm1
  clear hw1 hm1 hbox
  go_wp2_with fail
  refine hso.out.mono ?_
  rintro x w2 ⟨u, rfl, hm2, hcase⟩
  have HM2 : Hid (Mods [] w w2) := HM1.out.trans hm2 (by simp)
  have HO2 : Hid (OrdW w2 (.slice sa sn sc) S.E) := HO.out.keep HM2.out (by simp)
  clear hm2 hso
  rcases hcase with ⟨hDn, rfl⟩ | ⟨g, cap, rfl, hcells⟩
  · subst hDn
    clear hlen hsmE hsmD
    go_wp2_with fail
    go_loopw [4, 17] (fun ov iv wr => ov = .slice none 0 0 ∧ iv = .int .i64 0 ∧ wr = w2) (fun _ _ _ => 0)
    case atStart => exact ⟨rfl, rfl, rfl⟩
    case round =>
      obtain ⟨rfl, rfl, rfl⟩ := hrel
      go_wp2_with fail
      go_ret
      exact ⟨_, rfl, World.ownsRow_nil _ _ _ _, HM2.out, by first | rfl | exact fun _ => rfl⟩
  · have HC := Lib.hid hcells
    clear hcells
    go_wp2_with fail
    go_loopw [4, 17] (fun ov iv wr => ∃ k : Nat, k ≤ D.length ∧ iv = .int .i64 k ∧ wr.ownsRow w2.heap.size 3 1 ov k ((addrsOf D).take k) ∧ Mods [] w2 wr ∧ (D = [] → ov = .slice none 0 0)) (fun _ iv _ => D.length - (intOf iv).toNat)
    case atStart => exact ⟨0, Nat.zero_le _, rfl, by simpa using World.ownsRow_nil _ _ _ _, Mods.refl _ _, fun _ => rfl⟩
    case round =>
      obtain ⟨k, hk, rfl, hown, hm, hnil⟩ := hrel
      have HO3 := Lib.hid hown
      clear hown
      by_cases hlt : k < D.length
      · obtain ⟨e, he⟩ : ∃ e, D[k]? = some e := ⟨_, List.getElem?_eq_getElem hlt⟩
        have hgl := World.block_lt_of_cell? _ _ (HC.out k e he)
        have ck : wr.cell? ⟨g, k, none⟩ = some (.pointer (some ⟨e.blk, 0, none⟩)) := (hm.cell hgl (by simp)).trans (HC.out k e he)
        have hmem : e ∈ S.E := HD.out.1.mem_iff.1 (List.mem_of_getElem? he)
        obtain ⟨j, hj⟩ := List.getElem?_of_mem hmem
        have ca : wr.cell? ⟨e.blk, 0, none⟩ = some (.int .i64 e.addr) := ((HO2.out.slot j e hj).keep hm (by simp)).cell (i := 0) rfl
        have hal : (addrsOf D)[k]? = some (.int .i64 e.addr) := by unfold addrsOf; rw [List.getElem?_map, he]; rfl
        have HAL := Lib.hid hal
        have HM := Lib.hid hm
        have hsz := hm.size
        clear hal hm hj hmem he hgl hnil
        go_wp2_with (at_builtin; refine wpList_append_own _ rfl (.tmp 21) (.tmp 27) 48 rfl w2.heap.size 3 i0 (.int .i64 0) 1 8 Try.underlying48 hi0 hz0 hz1 hz2 rfl (by decide) _ _ _ rfl (HO3.out.alloc _) ⟨wr.heap.size, 0, none⟩ 1 1 [.int .i64 e.addr] rfl rfl (cell_one_new _ _ _) (by simp [Value.oneCell']) (by unfold maxLen; omega) (by omega) (by simp; omega) ?_; intro v1 w3 hown1 hg1 hn1)
        have hm3 : Mods [] w2 w3 := (HM.out.alloc _).grown hg1 (fun q hq => .inr (HO3.out.lt q hq).1)
        have HO4 := Lib.hid hown1
        clear hown1 hn1 hg1
        go_roundw
        case rel =>
          refine ⟨k + 1, by omega, by go_num, ?_, hm3, fun h => by rw [h] at hlt; simp at hlt⟩
          rw [List.take_add_one, HAL.out]
          exact HO4.out
        case measure => simp [intOf]; omega
      · obtain rfl : k = D.length := by omega
        have e3 : (addrsOf D).take D.length = addrsOf D := List.take_of_length_le (by simp [addrsOf])
        have HM := Lib.hid hm
        have HN := Lib.hid hnil
        clear hm hnil
        go_wp2_with fail
        go_ret
        refine ⟨_, rfl, ?_, HM2.out.trans HM.out (by simp), HN.out⟩
        have := HO3.out
        rw [e3] at this
        obtain ⟨k1, k2⟩ := this
        refine ⟨k1, ?_⟩
        rcases k2 with k2 | ⟨g2, cap2, cur2, a1, a2, a3⟩
        · exact .inl k2
        · exact .inr ⟨g2, cap2, cur2, a1, Nat.le_trans HM2.out.size a2, a3⟩
end Go.Proofs.Ytahaecieklfhkaa
