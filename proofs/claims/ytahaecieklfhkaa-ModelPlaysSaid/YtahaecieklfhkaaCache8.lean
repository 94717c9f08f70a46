/- The walks of container/heap over package cache's order: Push; then the cache's use. -/
import Derived.Test.YtahaecieklfhkaaCache7
namespace Go.Proofs.Ytahaecieklfhkaa
open Go.RowKit

/-- What container/heap's Push leaves. -/
def PushPost (w w' : World) (b : Nat) (l : List Value) (v : Value) (E : List Ent) (e : Ent) : Prop :=
  ∃ g cap, ∃ E1 : List Ent, E1.Perm (E ++ [e]) ∧ HeapW w' g cap E1 ∧ Hp (useds E1) E1.length ∧ Blk w' b 110 (l.set 2 (.slice (some ⟨g, 0, none⟩) E1.length cap)) ∧ Mods (b :: e.blk :: (obk v ++ E.map Ent.blk)) w w' ∧ (g ∈ obk v ∨ w.heap.size ≤ g)

set_option maxRecDepth 100000 in
set_option maxHeartbeats 1600000 in
theorem hPush_any {w : World} {b p : Nat} {v : Value} {E : List Ent} {e : Ent} {l : List Value} (h : OrdW w v E) (hB : Blk w b 110 l) (hl2 : l[2]? = some v) (hbn : b ∉ obk v ++ E.map Ent.blk) (hS : Blk w e.blk 114 (e.cells p))
    (hen : e.blk ∉ obk v ++ E.map Ent.blk) (heb : e.blk ≠ b) (hsm : E.length < 900000) (hh : Hp (useds E) E.length) :
    Calls Try.prog 44 #[.iface 116 (.pointer (some ⟨b, 2, none⟩)), .iface 112 (.pointer (some ⟨e.blk, 0, none⟩))] w fun x w' => x = .returned (.tuple #[]) ∧ PushPost w w' b l v E e := by
  have hp := Lib.hid (oPush_any h hB hl2 hbn hS hen heb (by omega))
  have mP := m_push ⟨b, 2, none⟩
  have HB := Lib.hid hB
  have HBN := Lib.hid (And.intro hbn heb)
  have HH := Lib.hid hh
  have hl3 : 2 < l.length := (List.getElem?_eq_some_iff.1 hl2).1
  clear h hB hbn hS hen heb hh hl2
  go_enter Try.func44, Try.ntmps44
  go_wp2_with fail
  refine hp.out.mono ?_
  rintro x w1 ⟨rfl, g, cap, hH, hB1, hm1, hg⟩
  have hbn1 : b ∉ g :: (E ++ [e]).map Ent.blk := by
    have hlt := HB.out.lt
    have h1 := HBN.out.1
    have h2 := HBN.out.2
    simp only [List.mem_append, not_or] at h1
    simp only [List.map_append, List.map_cons, List.map_nil, List.mem_cons, List.mem_append, List.not_mem_nil, or_false, not_or]
    refine ⟨?_, h1.2, Ne.symm h2⟩
    rintro rfl
    rcases hg with hg | hg
    · exact h1.1 hg
    · omega
  have hc1 : w1.cell? ⟨b, 2, none⟩ = some (.slice (some ⟨g, 0, none⟩) (E ++ [e]).length cap) := by
    rw [List.length_append, List.length_singleton]
    exact hB1.cell (by simp [hl3])
  have mN := m_len hc1
  have hl := Lib.hid (oLen_any w1 (some ⟨g, 0, none⟩) (E ++ [e]).length cap)
  have hup := Lib.hid (hUp_any (n := E.length + 1) (j := E.length) hH hc1 hbn1 (by omega) (by simp) (up_start HH.out (fun k hk => useds_pre hk)))
  have hlen : (E ++ [e]).length = E.length + 1 := by simp
  rw [hlen] at mN hl
  simp only [show (((E.length + 1 : Nat)) : Int) = (E.length : Int) + 1 by omega] at hl
  have HB1 := Lib.hid hB1
  have HM1 := Lib.hid hm1
  have HG := Lib.hid hg
  have HN1 := Lib.hid hbn1
  clear hH hB1 hm1 hg hbn1 hc1 hp
  go_wp2_with (first
    | (go_at_call 127; refine hl.out.mono ?_; rintro e w' ⟨rfl, rfl⟩)
    | fail)
  refine hup.out.mono ?_
  rintro x w2 ⟨rfl, E1, hU, hh1⟩
  have HP : Hid (PushPost w w2 b l v E e) := by
    have e1 : E1.length = E.length + 1 := by have := hU.len; rw [this]; simp
    refine ⟨g, cap, E1, hU.perm, hU.heap, by rw [e1]; exact hh1, by rw [e1]; exact HB1.out.keep hU.mods HN1.out, HM1.out.trans hU.mods ?_, HG.out⟩
    intro k hk
    simp only [List.map_append, List.map_cons, List.map_nil, List.mem_cons, List.mem_append, List.not_mem_nil, or_false] at hk ⊢
    rcases hk with rfl | hk | rfl
    · rcases HG.out with hg | hg
      · exact .inl (.inr (.inr (.inl hg)))
      · exact .inr hg
    · exact .inl (.inr (.inr (.inr hk)))
    · exact .inl (.inr (.inl rfl))
  clear hU hh1
  go_wp2_with fail
  go_end0
  exact ⟨rfl, HP.out⟩
end Go.Proofs.Ytahaecieklfhkaa
