/- Ranging over a map that stays as it is: the entries come one by one, each once, all of them. No program is named here. -/
import Derived.Test.YtahaecieklfhkaaDoorMapBase
namespace Go.Proofs.YtahaecieklfhkaaDoor
open Go.RowKit Go.MapKept
open Go.ChangeMaps (setBlock)

/-- Block r is a range over the map in block b; the keys of D have come; so many are left at most. -/
def RangeK {κ : Type} (kv : κ → Value) (w : World) (r b : Nat) (F : κ → Option Value) (D : κ → Prop) (left : Nat) : Prop :=
  ∃ es clock since seen c0, w.heap[b]? = some (.map es clock) ∧ Stamped es clock ∧ (∀ x ∈ es.toList, ∃ a, x.key = kv a) ∧ (∀ a v, F a = some v ↔ ∃ x ∈ es.toList, x.key = kv a ∧ x.val = v) ∧
    w.heap[r]? = some (.mapIter (some b) since seen c0) ∧ (∀ x ∈ es.toList, x.born < since) ∧ since ≤ c0 ∧ since ≤ clock ∧ (∀ x ∈ es.toList, ∀ a, x.key = kv a → (D a ↔ seen.contains x.born = true)) ∧ (leftOf es seen).size = left

section
variable {κ : Type} {kv : κ → Value} {P : Program} {w : World} {r b : Nat} {F : κ → Option Value} {D : κ → Prop} {left n : Nat}

theorem RangeK.keep {w1 : World} (h : RangeK kv w r b F D left) {L : List Nat} (hm : Mods L w w1) (hr : r ∉ L) (hb : b ∉ L) : RangeK kv w1 r b F D left := by
  obtain ⟨es, clock, since, seen, c0, h1, h2, h3, h4, h5, h6⟩ := h
  exact ⟨es, clock, since, seen, c0, hm.keep h1 hb, h2, h3, h4, hm.keep h5 hr, h6⟩
theorem RangeK.lt (h : RangeK kv w r b F D left) : r < w.heap.size ∧ b < w.heap.size := by
  obtain ⟨es, clock, since, seen, c0, h1, h2, h3, h4, h5, h6⟩ := h
  exact ⟨lt_of_block h5, lt_of_block h1⟩

/-- 'range m' lays an iterator. -/
theorem MapK.range {T K E : TypeId} (h : MapK kv w b F n) (hT : P.underlying T = some (.map K E)) :
    ∃ w1, (Instr.range T (.map (some b))).run P w = .ok (.pointer (some ⟨w.heap.size, 0, none⟩)) w1 ∧ RangeK kv w1 w.heap.size b F (fun _ => False) n ∧ Mods [] w w1 ∧ w1.heap.size = w.heap.size + 1 := by
  have hlt := h.lt
  obtain ⟨es, clock, h1, h2, h3, h4, h5⟩ := h
  refine ⟨w.alloc (.mapIter (some b) clock #[] clock), run_range_map w T K E b es clock hT h1, ⟨es, clock, clock, #[], clock, ?_, h2, h3, h4, (MapKept.heap_alloc w _).1, h2.1, Nat.le_refl _, Nat.le_refl _, by simp, by unfold leftOf; rw [Array.filter_eq_self.2 (by simp)]; exact h5⟩, (Mods.refl _ _).alloc _, by simp⟩
  rw [(MapKept.heap_alloc w _).2 b hlt]; exact h1

/-- A step: nothing is left; or one more key comes. -/
theorem RangeK.next (h : RangeK kv w r b F D left) (hinj : ∀ a c, kv a = kv c → a = c) (hrb : r ≠ b) (ty : TypeId) :
    (left = 0 ∧ (∀ a, F a ≠ none → D a) ∧ (Instr.next (.pointer (some ⟨r, 0, none⟩)) false ty).run P w = .ok (.tuple #[.bool false]) w) ∨
    ∃ a v w1 left1, F a = some v ∧ ¬ D a ∧ (Instr.next (.pointer (some ⟨r, 0, none⟩)) false ty).run P w = .ok (.tuple #[.bool true, kv a, v]) w1 ∧ (Instr.entry (.pointer (some ⟨r, 0, none⟩))).run P w1 = .ok (.tuple #[kv a, v]) w1 ∧
      RangeK kv w1 r b F (fun c => D c ∨ c = a) left1 ∧ left1 < left ∧ Mods [r] w w1 ∧ w1.heap.size = w.heap.size := by
  obtain ⟨es, clock, since, seen, c0, h1, h2, h3, h4, h5, h6, h7, h8, h9, h10⟩ := h
  rcases run_next_at (P := P) w ty r b since c0 seen es clock h5 h1 h6 h7 with ⟨hz, hrun⟩ | ⟨e, he, w1, hw1, hrun⟩
  · refine .inl ⟨by omega, fun a ha => ?_, hrun⟩
    cases hF : F a with
    | none => exact absurd hF ha
    | some v =>
      obtain ⟨x, hx, hxk, _⟩ := (h4 a v).1 hF
      exact (h9 x hx a hxk).2 (all_seen es seen hz x hx)
  · obtain ⟨hm, hns⟩ := mem_left he
    obtain ⟨a, ha⟩ := h3 e hm
    have hheap : w1.heap = w.heap := by rcases hw1 with rfl | rfl <;> rfl
    have hr1 : w1.heap[r]? = some (.mapIter (some b) since seen c0) := by rw [hheap]; exact h5
    have hset := heap_set (o' := .mapIter (some b) since (seen.push e.born) clock) hr1
    have hb1 : (setBlock w1 r (.mapIter (some b) since (seen.push e.born) clock)).heap[b]? = some (.map es clock) := by
      show (w1.heap.setIfInBounds r _)[b]? = _
      rw [hset.2 b (Ne.symm hrb), hheap]; exact h1
    have hent := run_entry_at (P := P) (setBlock w1 r (.mapIter (some b) since (seen.push e.born) clock)) r b since seen es clock e hset.1 hb1 hm h2.2.1
    have hD : ¬ D a := fun hd => by have := (h9 e hm a ha).1 hd; rw [hns] at this; cases this
    rw [ha] at hrun hent
    refine .inr ⟨a, e.val, _, _, (h4 a e.val).2 ⟨e, hm, ha, rfl⟩, hD, hrun, hent, ⟨es, clock, since, seen.push e.born, clock, hb1, h2, h3, h4, hset.1, h6, h8, h8, fun x hx c hc => ?_, rfl⟩, ?_, ?_, ?_⟩
    · have hcon : (seen.push e.born).contains x.born = true ↔ (seen.contains x.born = true ∨ x.born = e.born) := by
        simp
      rw [hcon, ← h9 x hx c hc]
      have hbe : x.born = e.born ↔ c = a := by
        constructor
        · intro hb
          have hx2 : x = e := by
            have hn := h2.2.1
            obtain ⟨i, hi⟩ := List.getElem?_of_mem hx
            obtain ⟨j, hj⟩ := List.getElem?_of_mem hm
            have e1 : (es.toList.map (·.born))[i]? = some x.born := by rw [List.getElem?_map, hi]; rfl
            have e2 : (es.toList.map (·.born))[j]? = some e.born := by rw [List.getElem?_map, hj]; rfl
            have hij : i = j := (List.getElem?_inj (List.getElem?_eq_some_iff.1 e1).1 hn).1 (by rw [e1, e2, hb])
            subst hij
            rw [hi] at hj; injection hj
          subst hx2
          exact hinj _ _ (hc.symm.trans ha)
        · rintro rfl
          have hn := h2.2.2
          obtain ⟨i, hi⟩ := List.getElem?_of_mem hx
          obtain ⟨j, hj⟩ := List.getElem?_of_mem hm
          have e1 : (es.toList.map (·.key))[i]? = some (kv c) := by rw [List.getElem?_map, hi]; exact congrArg some hc
          have e2 : (es.toList.map (·.key))[j]? = some (kv c) := by rw [List.getElem?_map, hj]; exact congrArg some ha
          have hij : i = j := (List.getElem?_inj (List.getElem?_eq_some_iff.1 e1).1 hn).1 (by rw [e1, e2])
          subst hij
          rw [hi] at hj; injection hj with hj; rw [hj]
      rw [hbe]
    · have := left_shrinks es seen e he; omega
    · refine ⟨?_, ?_, ?_, ?_, ?_⟩
      · rcases hw1 with rfl | rfl <;> rfl
      · rcases hw1 with rfl | rfl <;> rfl
      · rcases hw1 with rfl | rfl <;> rfl
      · show w.heap.size ≤ (w1.heap.setIfInBounds r _).size; rw [Array.size_setIfInBounds, hheap]; exact Nat.le_refl _
      · intro k _ hk
        show (w1.heap.setIfInBounds r _)[k]? = _
        rw [hset.2 k (by simpa using hk), hheap]
    · show (w1.heap.setIfInBounds r _).size = _; rw [Array.size_setIfInBounds, hheap]
end
end Go.Proofs.YtahaecieklfhkaaDoor
