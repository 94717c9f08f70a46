/- The walks of container/heap over package cache's order: Remove. -/
import Derived.Test.YtahaecieklfhkaaCache5
namespace Go.Proofs.Ytahaecieklfhkaa
open Go.RowKit

theorem last_split {α : Type} {l : List α} {m : Nat} {e : α} (h : l.length = m + 1) (he : l[m]? = some e) : ∃ l1, l = l1 ++ [e] ∧ l1.length = m := by
  refine ⟨l.take m, ?_, by simp; omega⟩
  obtain ⟨hm, rfl⟩ := List.getElem?_eq_some_iff.1 he
  rw [List.take_append_getElem hm]
  exact (List.take_of_length_le (by omega)).symm
theorem HeapW.pop {w : World} {g cap : Nat} {E : List Ent} {e : Ent} (h : HeapW w g cap (E ++ [e])) : HeapW w g cap E := by
  obtain ⟨⟨r, h1, h2, h3⟩, h4, h5⟩ := h
  refine ⟨⟨e.ptr :: r, by simpa using h1, by simp at h2 ⊢; omega, h3⟩, fun i x hx => h4 i x ?_, ?_⟩
  · have hi := (List.getElem?_eq_some_iff.1 hx).1
    rw [List.getElem?_append_left hi]; exact hx
  · rw [List.map_append, ← List.cons_append] at h5
    exact (List.nodup_append.1 h5).1
theorem useds_pre {E : List Ent} {e : Ent} {k : Nat} (hk : k < E.length) : useds (E ++ [e]) k = useds E k := by unfold useds; rw [List.getElem?_append_left hk]

/-- What Remove leaves. -/
def RemPost (w w' : World) (b g cap : Nat) (l : List Value) (E : List Ent) (e : Ent) : Prop :=
  ∃ E1 : List Ent, HeapW w' g cap E1 ∧ (E1 ++ [e]).Perm E ∧ Hp (useds E1) E1.length ∧ Blk w' b 110 (l.set 2 (.slice (some ⟨g, 0, none⟩) E1.length cap)) ∧ Mods (b :: g :: E.map Ent.blk) w w' ∧ ∃ p, Blk w' e.blk 114 (e.cells p)
theorem rem_post {w w3 : World} {b g cap m : Nat} {l : List Value} {E E4 : List Ent} {e : Ent} (hB : Blk w b 110 l) (hbn : b ∉ g :: E.map Ent.blk) (h : HeapW w3 g cap E4) (hp : E4.Perm E) (hm : Mods (g :: E.map Ent.blk) w w3)
    (hl : E4.length = m + 1) (he : E4[m]? = some e) (hh : Hp (useds E4) m) : RemPost w (w3.setCell ⟨b, 2, none⟩ (.slice (some ⟨g, 0, none⟩) m cap)) b g cap l E e := by
  obtain ⟨E1, rfl, hl1⟩ := last_split hl he
  have hmem : ∀ k ∈ g :: E1.map Ent.blk, k ∈ g :: E.map Ent.blk := by
    intro k hk
    rcases List.mem_cons.1 hk with hk | hk
    · exact List.mem_cons.2 (.inl hk)
    · exact List.mem_cons_of_mem _ ((hp.map Ent.blk).mem_iff.1 (by rw [List.map_append]; exact List.mem_append_left _ hk))
  have hmem2 : ∀ k ∈ g :: (E1 ++ [e]).map Ent.blk, k ∈ g :: E.map Ent.blk := by
    intro k hk
    rcases List.mem_cons.1 hk with hk | hk
    · exact List.mem_cons.2 (.inl hk)
    · exact List.mem_cons_of_mem _ ((hp.map Ent.blk).mem_iff.1 hk)
  refine ⟨E1, h.pop.keep (L := [b]) ((Mods.refl _ _).setCell (p := ⟨b, 2, none⟩) (.inl (by simp)) _) ?_, hp, ?_, ?_, (hm.mono ?_).setCell (p := ⟨b, 2, none⟩) (.inl (by simp)) _, m, (h.slot m e he).setOther (p := ⟨b, 2, none⟩) ?_ _⟩
  · intro k hk hkb
    rw [List.mem_singleton.1 hkb] at hk
    exact hbn (hmem b hk)
  · rw [hl1]; exact hh.congr fun k hk => (useds_pre (by omega)).symm
  · rw [hl1]; exact (hB.keep hm hbn).set 2 _
  · exact fun k hk => List.mem_cons_of_mem _ hk
  · rintro hx
    refine hbn (hmem2 b ?_)
    simp at hx
    rw [← hx]; simp

set_option maxRecDepth 100000 in
set_option maxHeartbeats 1600000 in
theorem hRemove_any {w : World} {g cap b i m : Nat} {E : List Ent} {e : Ent} {l : List Value} (h : HeapW w g cap E) (hB : Blk w b 110 l) (hl2 : l[2]? = some (.slice (some ⟨g, 0, none⟩) E.length cap)) (hbn : b ∉ g :: E.map Ent.blk)
    (he : E[i]? = some e) (hm : E.length = m + 1) (hsm : E.length < 1000000) (hh : Hp (useds E) E.length) :
    Calls Try.prog 57 #[.iface 116 (.pointer (some ⟨b, 2, none⟩)), .int .i64 i] w fun x w' => (∃ v, x = .returned v) ∧ RemPost w w' b g cap l E e := by
  have hb : w.cell? ⟨b, 2, none⟩ = some (.slice (some ⟨g, 0, none⟩) E.length cap) := hB.cell hl2
  have mN := m_len hb
  have hl := Lib.hid (oLen_any w (some ⟨g, 0, none⟩) E.length cap)
  have hi := (List.getElem?_eq_some_iff.1 he).1
  rw [hm] at mN hl
  simp only [show (((m + 1 : Nat)) : Int) = (m : Int) + 1 by omega] at hl
  have mP := m_pop ⟨b, 2, none⟩
  have HB := Lib.hid hB
  have HC := Lib.hid hb
  have HN := Lib.hid hbn
  have mS := m_swap hb
  rw [hm] at mS
  by_cases him : i = m
  · subst him
    obtain ⟨E1, hE1, hl1⟩ := last_split hm he
    have hpop := Lib.hid (oPop_any (hE1 ▸ h) (by rw [hl1, ← hm]; exact hb) (hB.free 2) (by rintro rfl; exact hbn (by simp)))
    have FIN := Lib.hid (rem_post hB hbn h (List.Perm.refl _) (Mods.refl _ _) hm he (m := i) (by intro k hk k0; exact hh k (by omega) k0))
    rw [hl1] at hpop
    clear h hB hl2 hb hbn he hh mS hE1 hm
    go_enter Try.func57, Try.ntmps57
    go_wp2_with (first
      | (go_at_call 127; refine hl.out.mono ?_; rintro e w' ⟨rfl, rfl⟩)
      | (go_at_call 130; refine hpop.out.mono ?_; rintro x w' ⟨⟨v, rfl⟩, rfl⟩))
    go_ret
    exact ⟨⟨_, rfl⟩, FIN.out⟩
  · obtain ⟨z, hz⟩ : ∃ z, E[m]? = some z := ⟨_, List.getElem?_eq_getElem (by omega)⟩
    have hs := Lib.hid (oSwap_any h he hz him)
    have hX := useds_exch he hz
    have hst : DownOk (useds (lexch E i m)) m i i := down_start (u := useds E) (fun k hk k0 => hh k (by omega) k0) (by omega) (fun k hk hki => by rw [hX, exch_o _ _ _ _ hki (by omega)])
    have hlx := lexch_length E i m
    have hem : (lexch E i m)[m]? = some e := by rw [lexch_get he hz, if_neg (Ne.symm him), if_pos rfl]
    have hpx := lexch_perm E i m
    generalize lexch E i m = E2 at *
    have HE := Lib.hid (And.intro hem hpx)
    have HS := Lib.hid hst
    have HL := Lib.hid hlx
    have hsm2 : m < 999999 := by omega
    have hi2 : i < m := by omega
    rw [hm] at hs
    clear h hB hl2 hb he hh hX hst hem hpx hz hlx
    have HM := Lib.hid hm
    clear hm
    go_enter Try.func57, Try.ntmps57
    go_wp2_with (first
      | (go_at_call 127; refine hl.out.mono ?_; rintro e w' ⟨rfl, rfl⟩)
      | fail)
    refine hs.out.mono ?_
    rintro x w2 ⟨rfl, h2, m2⟩
    have hlen2 : E2.length = m + 1 := HL.out.trans HM.out
    have hbn2 : b ∉ g :: E2.map Ent.blk := by
      intro hx
      refine HN.out ?_
      rcases List.mem_cons.1 hx with hx | hx
      · exact List.mem_cons.2 (.inl hx)
      · exact List.mem_cons_of_mem _ ((HE.out.2.map Ent.blk).mem_iff.1 hx)
    have hc2 : w2.cell? ⟨b, 2, none⟩ = some (.slice (some ⟨g, 0, none⟩) E2.length cap) := by
      rw [HL.out]; exact (m2.cell (World.block_lt_of_cell? w _ HC.out) HN.out).trans HC.out
    have hd := Lib.hid (hDown_any h2 hc2 hbn2 hi2 (by omega) (by omega) HS.out)
    have HM2 := Lib.hid m2
    have HC2 := Lib.hid hc2
    have HB2 := Lib.hid hbn2
    have HL2 := Lib.hid hlen2
    clear h2 m2 hc2 hbn2 hlen2 hs hl mS mN
    go_wp2_with fail
    refine hd.out.mono ?_
    rintro x w3 ⟨i3, E3, rfl, hle, hU, h1, h3⟩
    by_cases hmv : i < i3
    · rw [decide_eq_true hmv]
      have he3 : E3[m]? = some e := (hU.rest m (Nat.le_refl _)).trans HE.out.1
      have hl3 : E3.length = m + 1 := hU.len.trans HL2.out
      have hc3 := hU.cell HC2.out HB2.out
      have hmd : Mods (g :: E.map Ent.blk) w w3 := HM2.out.trans hU.mods (by
        intro x hx
        refine .inl ?_
        rcases List.mem_cons.1 hx with hx | hx
        · exact List.mem_cons.2 (.inl hx)
        · exact List.mem_cons_of_mem _ ((HE.out.2.map Ent.blk).mem_iff.1 hx))
      have FIN := Lib.hid (rem_post HB.out HN.out hU.heap (hU.perm.trans HE.out.2) hmd hl3 he3 (h1 (by omega)))
      obtain ⟨E1, hE1, hl1⟩ := last_split hl3 he3
      have hpop := Lib.hid (oPop_any (hE1 ▸ hU.heap) (by rw [hl1, ← HL2.out]; exact hc3) (((HB.out.keep hmd HN.out)).free 2) (fun e => HN.out (by rw [e]; simp)))
      rw [hl1] at hpop
      clear hU h1 h3 he3 hl3 hc3 hmd hE1
      go_wp2_with (go_at_call 130; refine hpop.out.mono ?_; rintro x w' ⟨⟨v, rfl⟩, rfl⟩)
      go_ret
      exact ⟨⟨_, rfl⟩, FIN.out⟩
    · rw [decide_eq_false hmv]
      obtain rfl : i3 = i := by omega
      have hup := Lib.hid (hUp_any hU.heap (by rw [hU.len]; exact hU.cell HC2.out HB2.out) (hU.notin HB2.out) hi2 (by rw [hU.len, HL2.out]; omega) (h3 rfl))
      have HU := Lib.hid hU
      clear hU h1 h3
      go_wp2_with fail
      refine hup.out.mono ?_
      rintro x w4 ⟨rfl, E4, hU4, hh4⟩
      have hU := HU.out.trans hU4
      have he3 : E4[m]? = some e := (hU.rest m (Nat.le_refl _)).trans HE.out.1
      have hl3 : E4.length = m + 1 := hU.len.trans HL2.out
      have hc3 := hU.cell HC2.out HB2.out
      have hmd : Mods (g :: E.map Ent.blk) w w4 := HM2.out.trans hU.mods (by
        intro x hx
        refine .inl ?_
        rcases List.mem_cons.1 hx with hx | hx
        · exact List.mem_cons.2 (.inl hx)
        · exact List.mem_cons_of_mem _ ((HE.out.2.map Ent.blk).mem_iff.1 hx))
      have FIN := Lib.hid (rem_post HB.out HN.out hU.heap (hU.perm.trans HE.out.2) hmd hl3 he3 hh4)
      obtain ⟨E1, hE1, hl1⟩ := last_split hl3 he3
      have hpop := Lib.hid (oPop_any (hE1 ▸ hU.heap) (by rw [hl1, ← HL2.out]; exact hc3) (((HB.out.keep hmd HN.out)).free 2) (fun e => HN.out (by rw [e]; simp)))
      rw [hl1] at hpop
      clear hU hU4 hh4 he3 hl3 hc3 hmd hE1 hup
      go_wp2_with (go_at_call 130; refine hpop.out.mono ?_; rintro x w' ⟨⟨v, rfl⟩, rfl⟩)
      go_ret
      exact ⟨⟨_, rfl⟩, FIN.out⟩
end Go.Proofs.Ytahaecieklfhkaa
