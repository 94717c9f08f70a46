/- The walks of container/heap over package cache's order: Fix, Remove and Push. -/
import Derived.Test.YtahaecieklfhkaaCache4
import Derived.OwnWalk
import Derived.Deep.OwnRows
namespace Go.Proofs.Ytahaecieklfhkaa
open Go.RowKit

/-- The same entries in another order, and it is a heap. -/
def HeapPost (w w' : World) (g cap n : Nat) (E : List Ent) : Prop := ∃ E', UpW w w' g cap n E E' ∧ Hp (useds E') n

theorem UpW.trans {w w1 w2 : World} {g cap n : Nat} {E E1 E2 : List Ent} (h : UpW w w1 g cap n E E1) (k : UpW w1 w2 g cap n E1 E2) : UpW w w2 g cap n E E2 := by
  refine ⟨k.perm.trans h.perm, k.heap, h.mods.trans k.mods ?_, fun j hj => (k.rest j hj).trans (h.rest j hj)⟩
  intro x hx
  refine .inl ?_
  rcases List.mem_cons.1 hx with hx | hx
  · exact List.mem_cons.2 (.inl hx)
  · exact List.mem_cons_of_mem _ ((h.perm.map Ent.blk).mem_iff.1 hx)
theorem UpW.notin {w w1 : World} {g cap n b : Nat} {E E1 : List Ent} (h : UpW w w1 g cap n E E1) (hb : b ∉ g :: E.map Ent.blk) : b ∉ g :: E1.map Ent.blk := by
  intro hx
  refine hb ?_
  rcases List.mem_cons.1 hx with hx | hx
  · exact List.mem_cons.2 (.inl hx)
  · exact List.mem_cons_of_mem _ ((h.perm.map Ent.blk).mem_iff.1 hx)

set_option maxRecDepth 100000 in
set_option maxHeartbeats 1600000 in
/-- Fix, where one's number was raised. -/
theorem hFix_any {w : World} {g cap b i0 : Nat} {E : List Ent} (h : HeapW w g cap E) (hb : w.cell? ⟨b, 2, none⟩ = some (.slice (some ⟨g, 0, none⟩) E.length cap)) (hbn : b ∉ g :: E.map Ent.blk)
    (hi : i0 < E.length) (hsm : E.length < 1000000) (hok : DownOk (useds E) E.length i0 i0) :
    Calls Try.prog 59 #[.iface 116 (.pointer (some ⟨b, 2, none⟩)), .int .i64 i0] w fun x w' => x = .returned (.tuple #[]) ∧ HeapPost w w' g cap E.length E := by
  have hd := Lib.hid (hDown_any h hb hbn hi (Nat.le_refl _) hsm hok)
  have mN := m_len hb
  have hl := Lib.hid (oLen_any w (some ⟨g, 0, none⟩) E.length cap)
  have HB := Lib.hid (And.intro hb hbn)
  clear h hb hbn hok
  generalize hn : E.length = n at *
  have HN := Lib.hid hn
  clear hn
  go_enter Try.func59, Try.ntmps59
  go_wp2_with (first
    | (go_at_call 127; refine hl.out.mono ?_; rintro e w' ⟨rfl, rfl⟩)
    | fail)
  refine hd.out.mono ?_
  rintro x w1 ⟨i, E1, rfl, hle, hU, h1, h2⟩
  by_cases hm : i0 < i
  · rw [decide_eq_true hm]
    have HU := Lib.hid hU
    have H1 := Lib.hid h1
    clear hU h1 h2
    go_wp2_with fail
    go_end0
    exact ⟨rfl, E1, HU.out, H1.out (by omega)⟩
  · rw [decide_eq_false hm]
    obtain rfl : i = i0 := by omega
    have hcell := hU.cell HB.out.1 HB.out.2
    have hlen := hU.len
    have hup := Lib.hid (hUp_any hU.heap (by rw [hlen, HN.out]; exact hcell) (hU.notin HB.out.2) hi (by rw [hlen, HN.out]; exact Nat.le_refl _) (h2 rfl))
    have HU := Lib.hid hU
    clear hU h1 h2 hcell hlen
    go_wp2_with fail
    refine hup.out.mono ?_
    rintro e w2 ⟨rfl, E2, hU2, hp2⟩
    have HR : Hid (HeapPost w w2 g cap n E) := ⟨E2, HU.out.trans hU2, hp2⟩
    clear hU2 hp2
    go_wp2_with fail
    go_end0
    exact ⟨rfl, HR.out⟩
end Go.Proofs.Ytahaecieklfhkaa
