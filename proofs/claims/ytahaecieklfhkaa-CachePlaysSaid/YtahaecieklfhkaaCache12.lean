/- The walk of package cache: Put. -/
import Derived.Test.YtahaecieklfhkaaCache11
namespace Go.Proofs.Ytahaecieklfhkaa
open Go.RowKit

/-- The entries behind a Put's Push and use. -/
theorem put_isCache {w7 w8 : World} {b mb g cap i n t : Nat} {v : Value} {S : CS} {e : Ent} {E1 : List Ent} (hbn : (b :: mb :: e.blk :: (obk v ++ S.E.map Ent.blk)).Nodup) (hg : g ∈ obk v ∨ (∀ k ∈ b :: mb :: e.blk :: (obk v ++ S.E.map Ent.blk), k ≠ g))
    (hp1 : E1.Perm (S.E ++ [e])) (he : E1[i]? = some e) (hok : S.Ok) (hlen : S.E.length < S.slots) (hno : e.addr ∉ S.E.map Ent.addr) (ht : S.tick + 1 < 100000000000) (he0 : e.used = 0)
    (hM : MapK kvC w8 mb (putF (mapF (prs S.E)) e.addr e.ptr) (S.E.length + 1))
    (hU : UsePost w7 w8 b g cap ((S.head mb v).set 2 (.slice (some ⟨g, 0, none⟩) E1.length cap)) E1 i e S.tick) {R : List Kept} (hr : Rel S.E R) (hs : S.slots = n) (htt : S.tick ≤ t) :
    ∃ fp1, IsC w8 b fp1 n (e.body :: R) S.f0 S.f1 (t + 1) ∧ (∀ k ∈ fp1, k ∈ b :: mb :: g :: e.blk :: (obk v ++ S.E.map Ent.blk)) := by
  obtain ⟨E2, hp2, hH2, hh2, hB2, hm2⟩ := hU
  obtain ⟨p1, p2⟩ := set_perm (f := e.at (S.tick + 1)) he
  have hl1 : E1.length = S.E.length + 1 := by have := hp1.length_eq; simpa using this
  have hl2 : E2.length = S.E.length + 1 := by have := hp2.length_eq; simp at this; omega
  have hblk : (E2.map Ent.blk).Perm (S.E.map Ent.blk ++ [e.blk]) := by
    have a := hp2.map Ent.blk
    rw [map_blk_set (f := e.at (S.tick + 1)) he rfl] at a
    have b := hp1.map Ent.blk
    rw [List.map_append] at b
    exact a.trans b
  have hprs : (prs E2).Perm (prs S.E ++ [(e.addr, e.ptr)]) := by
    have a := hp2.map (fun x => (x.addr, x.ptr))
    have e1 : (E1.set i (e.at (S.tick + 1))).map (fun x => (x.addr, x.ptr)) = E1.map (fun x => (x.addr, x.ptr)) := by
      rw [List.map_set]
      apply List.ext_getElem?
      intro j
      rw [List.getElem?_set]
      by_cases hij : i = j
      · subst hij
        have hi := (List.getElem?_eq_some_iff.1 he).1
        simp only [if_true, List.length_map, hi, List.getElem?_map, he, Option.map_some, Ent.at, Ent.ptr]
      · simp [hij]
    rw [e1] at a
    have b := hp1.map (fun x => (x.addr, x.ptr))
    rw [List.map_append] at b
    exact a.trans b
  have hnk : ((prs S.E ++ [(e.addr, e.ptr)]).map (·.1)).Nodup := by
    rw [List.map_append, prs_fst]
    exact List.nodup_append.2 ⟨hok.adr, by simp, fun a ha c hc => by simp at hc; subst hc; rintro rfl; exact hno ha⟩
  have hadr : (E2.map Ent.addr).Nodup := by
    have := (hprs.map (·.1)).nodup_iff.2 hnk
    rwa [prs_fst] at this
  have hgn : g ∉ b :: mb :: E2.map Ent.blk := by
    intro hx
    have hx2 : g = b ∨ g = mb ∨ g = e.blk ∨ g ∈ S.E.map Ent.blk := by
      rcases List.mem_cons.1 hx with hx | hx
      · exact .inl hx
      rcases List.mem_cons.1 hx with hx | hx
      · exact .inr (.inl hx)
      · have := hblk.mem_iff.1 hx
        simp only [List.mem_append, List.mem_singleton] at this
        rcases this with hx | hx
        · exact .inr (.inr (.inr hx))
        · exact .inr (.inr (.inl hx))
    rcases hg with hg | hg
    · simp only [List.nodup_cons, List.mem_cons, List.mem_append, not_or] at hbn
      obtain ⟨⟨_, _, h1, _⟩, ⟨_, h2, _⟩, ⟨h3, _⟩, h4⟩ := hbn
      rcases hx2 with rfl | rfl | rfl | hx2
      · exact h1 hg
      · exact h2 hg
      · exact h3 hg
      · exact (List.nodup_append.1 h4).2.2 g hg g hx2 rfl
    · rcases hx2 with rfl | rfl | rfl | hx2
      · exact hg _ (by simp) rfl
      · exact hg _ (by simp) rfl
      · exact hg _ (by simp) rfl
      · exact hg g (by simp only [List.mem_cons, List.mem_append]; exact .inr (.inr (.inr (.inr hx2)))) rfl
  refine ⟨b :: mb :: (obk (.slice (some ⟨g, 0, none⟩) E2.length cap) ++ E2.map Ent.blk), ⟨⟨S.slots, E2, S.tick + 1, S.f0, S.f1⟩, ⟨mb, .slice (some ⟨g, 0, none⟩) E2.length cap, rfl, ?_, ?_, ?_, .inr ⟨g, cap, rfl, hH2⟩, ?_⟩, hs, rel_new hr hp1 he ?_ hp2 hok.tik, rfl, rfl, by show S.tick + 1 ≤ t + 1; omega⟩, ?_⟩
  · have hbb : (b :: mb :: (E2.map Ent.blk)).Nodup := by
      have hq : (b :: mb :: E2.map Ent.blk).Perm (b :: mb :: (S.E.map Ent.blk ++ [e.blk])) := List.Perm.cons _ (List.Perm.cons _ hblk)
      refine hq.nodup_iff.2 ?_
      have hq2 : (b :: mb :: (S.E.map Ent.blk ++ [e.blk])).Perm (b :: mb :: e.blk :: S.E.map Ent.blk) := List.Perm.cons _ (List.Perm.cons _ List.perm_append_comm)
      refine hq2.nodup_iff.2 (hbn.sublist ?_)
      exact List.Sublist.cons_cons _ (List.Sublist.cons_cons _ (List.Sublist.cons_cons _ (List.sublist_append_right _ _)))
    have e1 : obk (.slice (some ⟨g, 0, none⟩) E2.length cap) = [g] := rfl
    rw [e1]
    have hq : (b :: mb :: ([g] ++ E2.map Ent.blk)).Perm (g :: b :: mb :: E2.map Ent.blk) :=
      (List.Perm.cons b (List.Perm.swap g mb _)).trans (List.Perm.swap g b _)
    exact hq.nodup_iff.2 (List.nodup_cons.2 ⟨hgn, hbb⟩)
  · rw [hl1, ← hl2] at hB2
    exact hB2
  · have : mapF (prs E2) = putF (mapF (prs S.E)) e.addr e.ptr := by
      rw [mapF_perm hprs hnk]
      funext c
      rw [mapF_app hnk]; rfl
    show MapK kvC w8 mb (mapF (prs E2)) E2.length
    rw [this, hl2]; exact hM
  · refine ⟨hadr, fun x hx => ?_, hh2, by show E2.length ≤ S.slots; omega, hok.slo, ht, hok.c0, hok.c1⟩
    show x.used ≤ S.tick + 1
    have hx2 := p1.mem_iff.1 (hp2.mem_iff.1 hx)
    rcases List.mem_cons.1 hx2 with rfl | hx2
    · exact Nat.le_refl _
    · have hx3 := hp1.mem_iff.1 (p2.mem_iff.2 (List.mem_cons_of_mem _ hx2))
      rcases List.mem_append.1 hx3 with hx3 | hx3
      · have := hok.tik x hx3; omega
      · simp at hx3; subst hx3; omega
  · rw [← prs_fst]; simpa [prs] using hnk
  · intro k hk
    have e1 : obk (.slice (some ⟨g, 0, none⟩) E2.length cap) = [g] := rfl
    rw [e1] at hk
    simp only [List.mem_cons, List.mem_append, List.not_mem_nil, or_false] at hk ⊢
    rcases hk with hk | hk | hk | hk
    · exact .inl hk
    · exact .inr (.inl hk)
    · exact .inr (.inr (.inl hk))
    · have := hblk.mem_iff.1 hk
      simp only [List.mem_append, List.mem_singleton] at this
      rcases this with h | h
      · exact .inr (.inr (.inr (.inr (.inr h))))
      · exact .inr (.inr (.inr (.inl h)))
end Go.Proofs.Ytahaecieklfhkaa
