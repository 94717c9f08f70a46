/- The walks of package cache: the order's Swap, Pop and Push. -/
import Derived.Test.YtahaecieklfhkaaCache1
namespace Go.Proofs.Ytahaecieklfhkaa
open Go.RowKit

/-- What an exchange makes of the row. -/
theorem HeapW.swap {w w1 : World} {g cap : Nat} {E : List Ent} (h : HeapW w g cap E) {i k : Nat} {e f : Ent} (he : E[i]? = some e) (hf : E[k]? = some f) (hik : i ≠ k)
    (e1 : w1 = (((w.setCell ⟨g, i, none⟩ f.ptr).setCell ⟨g, k, none⟩ e.ptr).setCell ⟨f.blk, 6, none⟩ (.int .i64 i)).setCell ⟨e.blk, 6, none⟩ (.int .i64 k)) :
    HeapW w1 g cap (lexch E i k) ∧ Mods (g :: E.map Ent.blk) w w1 := by
  subst e1
  have heg := h.ne he
  have hfg := h.ne hf
  have hne := h.ne2 he hf hik
  have hmem : ∀ {j : Nat} {x : Ent}, E[j]? = some x → x.blk ∈ g :: E.map Ent.blk := fun hx => List.mem_cons_of_mem _ (List.mem_map.2 ⟨_, List.mem_of_getElem? hx, rfl⟩)
  obtain ⟨⟨r, h1, h2, h3⟩, h4, h5⟩ := h
  have hi := (List.getElem?_eq_some_iff.1 he).1
  have hk := (List.getElem?_eq_some_iff.1 hf).1
  refine ⟨⟨⟨r, ?_, ?_, h3⟩, ?_, ?_⟩, ?_⟩
  · have a := (((h1.set i f.ptr).set k e.ptr).setOther (p := ⟨f.blk, 6, none⟩) (Ne.symm hfg) (.int .i64 i)).setOther (p := ⟨e.blk, 6, none⟩) (Ne.symm heg) (.int .i64 k)
    have e2 : ((E.map Ent.ptr ++ r).set i f.ptr).set k e.ptr = (lexch E i k).map Ent.ptr ++ r := by
      rw [lexch_eq he hf, List.map_set, List.map_set]
      rw [List.set_append_left _ _ (by simpa using hi), List.set_append_left _ _ (by simpa using hk)]
    rw [e2] at a; exact a
  · rw [lexch_length]; exact h2
  · intro j x hx
    rw [lexch_get he hf] at hx
    by_cases hji : j = i
    · subst hji
      rw [if_pos rfl] at hx; have hx := Option.some.inj hx; subst hx
      have a := (((((h4 k f hf).setOther (p := ⟨g, j, none⟩) hfg f.ptr).setOther (p := ⟨g, k, none⟩) hfg e.ptr).set 6 (.int .i64 j)).setOther (p := ⟨e.blk, 6, none⟩) (Ne.symm hne) (.int .i64 k))
      exact a
    · rw [if_neg hji] at hx
      by_cases hjk : j = k
      · subst hjk
        rw [if_pos rfl] at hx; have hx := Option.some.inj hx; subst hx
        have a := (((((h4 i e he).setOther (p := ⟨g, i, none⟩) heg f.ptr).setOther (p := ⟨g, j, none⟩) heg e.ptr).setOther (p := ⟨f.blk, 6, none⟩) hne (.int .i64 i)).set 6 (.int .i64 j))
        exact a
      · rw [if_neg hjk] at hx
        have hxg := HeapW.ne ⟨⟨r, h1, h2, h3⟩, h4, h5⟩ hx
        have hxe := HeapW.ne2 ⟨⟨r, h1, h2, h3⟩, h4, h5⟩ hx he hji
        have hxf := HeapW.ne2 ⟨⟨r, h1, h2, h3⟩, h4, h5⟩ hx hf hjk
        exact ((((h4 j x hx).setOther (p := ⟨g, i, none⟩) hxg f.ptr).setOther (p := ⟨g, k, none⟩) hxg e.ptr).setOther (p := ⟨f.blk, 6, none⟩) hxf (.int .i64 i)).setOther (p := ⟨e.blk, 6, none⟩) hxe (.int .i64 k)
  · have := (lexch_perm E i k).map Ent.blk
    exact ((List.Perm.cons g this).nodup_iff).2 h5
  · exact ((((Mods.refl _ w).setCell (p := ⟨g, i, none⟩) (.inl (by simp)) _).setCell (p := ⟨g, k, none⟩) (.inl (by simp)) _).setCell (p := ⟨f.blk, 6, none⟩) (.inl (hmem hf)) _).setCell (p := ⟨e.blk, 6, none⟩) (.inl (hmem he)) _

theorem cell_two_r (w : World) (p q : Addr) (u v : Value) (hq : (w.cell? q).isSome) : ((w.setCell p u).setCell q v).drew.cell? q = some v := by
  show ((w.setCell p u).setCell q v).cell? q = some v
  refine World.cell?_setCell_same' _ _ _ ?_
  obtain ⟨x, hx⟩ := Option.isSome_iff_exists.1 hq
  obtain ⟨v', hv⟩ := cell?_setCell_some (w := w) (p := p) (x := u) (q := q) hx
  rw [hv]; rfl
theorem cell_two_l (w : World) {g i k : Nat} (hik : i ≠ k) (u v : Value) (hp : (w.cell? ⟨g, i, none⟩).isSome) : ((w.setCell ⟨g, i, none⟩ u).setCell ⟨g, k, none⟩ v).drew.cell? ⟨g, i, none⟩ = some u := by
  show ((w.setCell ⟨g, i, none⟩ u).setCell ⟨g, k, none⟩ v).cell? ⟨g, i, none⟩ = some u
  have hne : (⟨g, k, none⟩ : Addr) ≠ ⟨g, i, none⟩ := fun e => hik (by injection e with _ e2; exact e2.symm)
  exact (World.cell?_setCell_other (h := hne) ..).trans (World.cell?_setCell_same' _ _ _ hp)

set_option maxHeartbeats 1600000 in
theorem oSwap_any {w : World} {g cap : Nat} {E : List Ent} (h : HeapW w g cap E) {i k : Nat} {e f : Ent} (he : E[i]? = some e) (hf : E[k]? = some f) (hik : i ≠ k) :
    Calls Try.prog 129 #[.slice (some ⟨g, 0, none⟩) E.length cap, .int .i64 i, .int .i64 k] w fun x w' => x = .returned (.tuple #[]) ∧ HeapW w' g cap (lexch E i k) ∧ Mods (g :: E.map Ent.blk) w w' := by
  have HW := fun w1 => Lib.hid (h.swap (w1 := w1) he hf hik)
  have ci := h.at he
  have ck := h.at hf
  have fi := h.free i
  have fk := h.free k
  have bi := h.slot i e he
  have bk := h.slot k f hf
  have hi := (List.getElem?_eq_some_iff.1 he).1
  have hk := (List.getElem?_eq_some_iff.1 hf).1
  have hle := h.le
  have heg := h.ne he
  have hfg := h.ne hf
  have hne := h.ne2 he hf hik
  have pe : e.ptr = .pointer (some ⟨e.blk, 0, none⟩) := rfl
  have pf : f.ptr = .pointer (some ⟨f.blk, 0, none⟩) := rfl
  rw [pe, pf] at HW
  obtain ⟨x6, hx6⟩ : ∃ u, (e.cells i)[6]? = some u := ⟨_, rfl⟩
  obtain ⟨y6, hy6⟩ : ∃ u, (f.cells k)[6]? = some u := ⟨_, rfl⟩
  have Bi := Lib.hid bi
  have Bk := Lib.hid bk
  clear bi bk h pe pf
  generalize E.length = n at *
  generalize hbe : e.blk = be at *
  generalize hbf : f.blk = bf at *
  unfold maxLen at hle
  go_enter Try.func129, Try.ntmps129
  go_wp2
  go_region
  all_goals (try go_wp2)
  obtain ⟨w1, hw1⟩ : ∃ w1, ((w.setCell ⟨g, i, none⟩ (.pointer (some ⟨bf, 0, none⟩))).setCell ⟨g, k, none⟩ (.pointer (some ⟨be, 0, none⟩))).drew = w1 := ⟨_, rfl⟩
  have ci1 : w1.cell? ⟨g, i, none⟩ = some (.pointer (some ⟨bf, 0, none⟩)) := by rw [← hw1]; exact cell_two_l w (by simpa using hik) _ _ (by rw [ci]; rfl)
  have ck1 : w1.cell? ⟨g, k, none⟩ = some (.pointer (some ⟨be, 0, none⟩)) := by rw [← hw1]; exact cell_two_r w _ _ _ _ (by rw [ck]; rfl)
  have Be1 : Blk w1 be 114 (e.cells i) := by rw [← hw1]; exact (Bi.out.setOther (p := ⟨g, i, none⟩) heg _).setOther (p := ⟨g, k, none⟩) heg _
  have Bf1 : Blk w1 bf 114 (f.cells k) := by rw [← hw1]; exact (Bk.out.setOther (p := ⟨g, i, none⟩) hfg _).setOther (p := ⟨g, k, none⟩) hfg _
  have c6 := Be1.cell hx6
  have d6 := Bf1.cell hy6
  have fe6 := Be1.free 6
  have ff6 := Bf1.free 6
  rw [hw1]
  have HW1 := Lib.hid hw1
  clear Be1 Bf1 hw1 ci ck fi fk hx6 hy6 he hf
  go_region
  all_goals (try go_wp2)
  all_goals go_end0
  have h2 := (HW _).out rfl
  refine ⟨rfl, ?_⟩
  rw [← HW1.out]
  exact ⟨HeapW.drewN h2.1 2, h2.2.drewN 2⟩

set_option maxHeartbeats 800000 in
/-- Pop: the last one is no more (its place in the row stays as it was). -/
theorem oPop_any {w : World} {g cap b : Nat} {E : List Ent} {e : Ent} (h : HeapW w g cap (E ++ [e])) (hb : w.cell? ⟨b, 2, none⟩ = some (.slice (some ⟨g, 0, none⟩) (E.length + 1) cap)) (hf : w.frozen? ⟨b, 2, none⟩ = false) (_hbg : b ≠ g) :
    Calls Try.prog 130 #[.pointer (some ⟨b, 2, none⟩)] w fun x w' => (∃ v, x = .returned v) ∧ w' = w.setCell ⟨b, 2, none⟩ (.slice (some ⟨g, 0, none⟩) E.length cap) := by
  have he : (E ++ [e])[E.length]? = some e := by simp
  have ci := h.at he
  have hle := h.le
  have hcap : E.length + 1 ≤ cap := by obtain ⟨⟨r, _, h1, _⟩, _⟩ := h; simp at h1; omega
  simp only [List.length_append, List.length_singleton] at hle
  generalize E.length = n at *
  unfold maxLen at hle
  clear h he
  go_enter Try.func130, Try.ntmps130
  go_wp2
  go_ret
  exact ⟨⟨_, rfl⟩, rfl⟩
end Go.Proofs.Ytahaecieklfhkaa
