/- The walks of package cache: use, remove. -/
import Derived.Test.YtahaecieklfhkaaCache8
import Derived.Test.YtahaecieklfhkaaMapBase
import Derived.Deep.RegionWith
namespace Go.Proofs.Ytahaecieklfhkaa
open Go.RowKit

def Ent.at (e : Ent) (t : Nat) : Ent := { e with used := t }
/-- What use leaves. -/
def UsePost (w w' : World) (b g cap : Nat) (l : List Value) (E : List Ent) (i : Nat) (e : Ent) (t : Nat) : Prop :=
  ∃ E1 : List Ent, E1.Perm (E.set i (e.at (t + 1))) ∧ HeapW w' g cap E1 ∧ Hp (useds E1) E1.length ∧ Blk w' b 110 (l.set 3 (.int .u64 ((t + 1 : Nat) : Int))) ∧ Mods (b :: g :: E.map Ent.blk) w w'
theorem map_blk_set {E : List Ent} {i : Nat} {e f : Ent} (he : E[i]? = some e) (hb : f.blk = e.blk) : (E.set i f).map Ent.blk = E.map Ent.blk := by
  rw [List.map_set, hb]
  apply List.ext_getElem?
  intro j
  rw [List.getElem?_set]
  by_cases hij : i = j
  · subst hij
    have hi := (List.getElem?_eq_some_iff.1 he).1
    simp only [if_true, List.length_map, hi, List.getElem?_map, he, Option.map_some]
  · simp [hij]
theorem map_ptr_set {E : List Ent} {i : Nat} {e f : Ent} (he : E[i]? = some e) (hb : f.blk = e.blk) : (E.set i f).map Ent.ptr = E.map Ent.ptr := by
  rw [List.map_set]
  apply List.ext_getElem?
  intro j
  rw [List.getElem?_set]
  by_cases hij : i = j
  · subst hij
    have hi := (List.getElem?_eq_some_iff.1 he).1
    simp only [if_true, List.length_map, hi, List.getElem?_map, he, Option.map_some, Ent.ptr, hb]
  · simp [hij]

set_option maxRecDepth 100000 in
set_option maxHeartbeats 1600000 in
theorem cUse_any {w : World} {b g cap i t : Nat} {E : List Ent} {e : Ent} {l : List Value} (h : HeapW w g cap E) (hB : Blk w b 110 l) (hl2 : l[2]? = some (.slice (some ⟨g, 0, none⟩) E.length cap)) (hl3 : l[3]? = some (.int .u64 (t : Nat))) (ht : t < 1000000000000)
    (hbn : b ∉ g :: E.map Ent.blk) (he : E[i]? = some e) (hsm : E.length < 1000000) (hh : Hp (useds E) E.length) :
    Calls Try.prog 45 #[.pointer (some ⟨b, 0, none⟩), .pointer (some ⟨e.blk, 0, none⟩)] w fun x w' => x = .returned (.tuple #[]) ∧ UsePost w w' b g cap l E i e t := by
  have hi := (List.getElem?_eq_some_iff.1 he).1
  have heb : e.blk ≠ b := by
    rintro hx
    exact hbn (List.mem_cons_of_mem _ (by rw [← hx]; exact List.mem_map.2 ⟨e, List.mem_of_getElem? he, rfl⟩))
  have heg := h.ne he
  have hgb : b ≠ g := fun hx => hbn (by rw [hx]; simp)
  have c3 := hB.cell hl3
  have f3 := hB.free 3
  obtain ⟨w1, hw1⟩ : ∃ w1, w.setCell ⟨b, 3, none⟩ (.int .u64 ((t : Int) + 1)) = w1 := ⟨_, rfl⟩
  have hB1 : Blk w1 b 110 (l.set 3 (.int .u64 ((t : Int) + 1))) := by rw [← hw1]; exact hB.set 3 _
  have hS1 : Blk w1 e.blk 114 (e.cells i) := by rw [← hw1]; exact (h.slot i e he).setOther (p := ⟨b, 3, none⟩) heb _
  have hl3' : 3 < l.length := (List.getElem?_eq_some_iff.1 hl3).1
  have d3 : w1.cell? ⟨b, 3, none⟩ = some (.int .u64 ((t : Int) + 1)) := hB1.cell (by simp [hl3'])
  have d5 := hS1.cell (i := 5) rfl
  have g5 := hS1.free 5
  obtain ⟨w2, hw2⟩ : ∃ w2, w1.setCell ⟨e.blk, 5, none⟩ (.int .u64 ((t : Int) + 1)) = w2 := ⟨_, rfl⟩
  have hm1 : Mods [b] w w1 := by rw [← hw1]; exact (Mods.refl _ _).setCell (p := ⟨b, 3, none⟩) (.inl (by simp)) _
  have hm2 : Mods [e.blk] w1 w2 := by rw [← hw2]; exact (Mods.refl _ _).setCell (p := ⟨e.blk, 5, none⟩) (.inl (by simp)) _
  have hB2 : Blk w2 b 110 (l.set 3 (.int .u64 ((t : Int) + 1))) := hB1.keep hm2 (by simp; exact Ne.symm heb)
  have hS2 : Blk w2 e.blk 114 ((e.at (t + 1)).cells i) := by
    have := hS1.set 5 (.int .u64 ((t : Int) + 1))
    rw [hw2] at this
    exact this
  have hH2 : HeapW w2 g cap (E.set i (e.at (t + 1))) := by
    have hk : HeapW w1 g cap E := h.keep hm1 (fun k hk hx => hbn (by rw [List.mem_singleton.1 hx] at hk; exact hk))
    obtain ⟨⟨r, k1, k2, k3⟩, k4, k5⟩ := hk
    refine ⟨⟨r, ?_, by simpa using k2, k3⟩, ?_, by rw [map_blk_set (f := e.at (t + 1)) he rfl]; exact k5⟩
    · rw [map_ptr_set (f := e.at (t + 1)) he rfl]; exact k1.keep hm2 (by simp; exact Ne.symm heg)
    · intro j x hx
      by_cases hij : i = j
      · subst hij
        rw [List.getElem?_set_self hi] at hx
        have hx := Option.some.inj hx
        subst hx
        exact hS2
      · rw [List.getElem?_set_ne hij] at hx
        exact (k4 j x hx).keep hm2 (by simp; exact h.ne2 hx he (Ne.symm hij))
  have hlen : (E.set i (e.at (t + 1))).length = E.length := by simp
  have hc2 : ∀ q, (w2.drewN q).cell? ⟨b, 2, none⟩ = some (.slice (some ⟨g, 0, none⟩) (E.set i (e.at (t + 1))).length cap) := fun q => by
    rw [hlen]; exact hB2.cell (by rw [List.getElem?_set_ne (by omega)]; exact hl2)
  have hbn2 : b ∉ g :: (E.set i (e.at (t + 1))).map Ent.blk := by rw [map_blk_set (f := e.at (t + 1)) he rfl]; exact hbn
  have hok : DownOk (useds (E.set i (e.at (t + 1)))) (E.set i (e.at (t + 1))).length i i := by
    rw [hlen]
    refine down_start hh hi (fun k hk hki => ?_)
    unfold useds
    rw [List.getElem?_set_ne (Ne.symm hki)]
  have hf := fun q => Lib.hid (hFix_any (hH2.drewN q) (hc2 q) hbn2 (by rw [hlen]; exact hi) (by rw [hlen]; exact hsm) hok)
  have c6 := hS2.cell (i := 6) rfl
  have FIN : ∀ q w3, HeapPost (w2.drewN q) w3 g cap (E.set i (e.at (t + 1))).length (E.set i (e.at (t + 1))) → UsePost w w3 b g cap l E i e t := by
    rintro q w3 ⟨E1, hU, hh1⟩
    have hmA : Mods (b :: g :: E.map Ent.blk) w (w2.drewN q) := by
      refine ((hm1.mono ?_).trans hm2 ?_).drewN q
      · intro k hk; rw [List.mem_singleton.1 hk]; simp
      · intro k hk; rw [List.mem_singleton.1 hk]; exact .inl (by simp; exact .inr (.inr ⟨e, List.mem_of_getElem? he, rfl⟩))
    have hl1 : E1.length = (E.set i (e.at (t + 1))).length := hU.len
    refine ⟨E1, hU.perm, hU.heap, by rw [hl1]; exact hh1, (hB2.drewN q).keep hU.mods hbn2, hmA.trans hU.mods ?_⟩
    rw [map_blk_set (f := e.at (t + 1)) he rfl]
    exact fun k hk => .inl (List.mem_cons_of_mem _ hk)
  have FINH := Lib.hid FIN
  clear FIN hok hbn2 hc2 hlen hH2 hS2 hB2 hm1 hm2 hS1 hB1 hl3' hh hbn hl2 hl3 h hB
  go_enter Try.func45, Try.ntmps45
  go_wp2_with fail
  clear hw1 hw2 c3 f3 d3 d5 g5
  go_region_with ((go_at_call 59; refine (hf _).out.mono ?_; rintro x w3 ⟨rfl, hp⟩))
  all_goals (try go_wp2_with fail)
  all_goals go_end0
  all_goals exact ⟨rfl, FINH.out _ _ hp⟩
end Go.Proofs.Ytahaecieklfhkaa
