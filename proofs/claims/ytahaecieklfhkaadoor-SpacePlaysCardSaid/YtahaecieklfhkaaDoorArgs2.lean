/- Arguments that are slices of pairs: what the reading gives a walk. No program is named here. -/
import Derived.Test.YtahaecieklfhkaaDoorArgs
import Derived.Deep.SlicePairs
namespace Go.Proofs.YtahaecieklfhkaaDoor
open Go.ChangeShapes Go.WideShapes Go.ChangeAt Go.RowKit

def pairsOf {α : Type} (f g : α → Value) (l : List α) : List Value := l.flatMap (fun a => [f a, g a])
theorem pairsOf_get {α : Type} (f g : α → Value) : ∀ {l : List α} {i : Nat} {a : α}, l[i]? = some a → (pairsOf f g l)[i * 2]? = some (f a) ∧ (pairsOf f g l)[i * 2 + 1]? = some (g a)
  | [], _, _, h => by cases h
  | x :: l, 0, a, h => by injection h with h; subst h; exact ⟨rfl, rfl⟩
  | x :: l, i + 1, a, h => by
    have ih := pairsOf_get f g (l := l) (i := i) (a := a) (by simpa using h)
    have e1 : (i + 1) * 2 = i * 2 + 2 := by omega
    have e2 : (i + 1) * 2 + 1 = i * 2 + 1 + 2 := by omega
    rw [e2, e1]
    exact ih
theorem pairsOf_length {α : Type} (f g : α → Value) (l : List α) : (pairsOf f g l).length = l.length * 2 := by
  induction l with
  | nil => rfl
  | cons x xs ih =>
    show (f x :: g x :: pairsOf f g xs).length = _
    simp [ih]; omega

theorem pairs_open {H : Type} {enc : TypeId × Value → H} {P : Program} {W : World} {t e : TypeId} {f0 f1 : Field} {base : Nat} {v : Value} {d : DataW H} {p : List MemPlace} {α : Type} [Inhabited α] (f g : α → Value) (ht : P.underlying t = some (.slice e)) (he : P.underlying e = some (.struct #[f0, f1]))
    (ce : P.cellsOf e = 2) (o0 : f0.offset = 0) (o1 : f1.offset = 1) (c0 : P.cellsOf f0.type = 1) (c1 : P.cellsOf f1.type = 1)
    (hmk : ∀ (n : Nat) (u0 u1 : Value) (y0 y1 : DataW H × List MemPlace), DataW.trod enc P W 0 (fun _ => true) true n f0.type [u0] = some y0 → DataW.trod enc P W 0 (fun _ => true) true n f1.type [u1] = some y1 → ∃ a : α, u0 = f a ∧ u1 = g a)
    (hv : Value.okWide P W .any base t v) (hj : DataW.Trod enc P W 0 (fun _ => true) true t v d p) :
    ∃ (A : Option Addr) (len cap : Nat) (zs : List α), v = .slice A len cap ∧ Row W A (pairsOf f g zs) ∧ zs.length = len ∧ len ≤ cap ∧ cap ≤ maxLen := by
  obtain ⟨a0, len, cap, rfl⟩ := okWide_slice ht hv
  obtain ⟨fuel, hf⟩ := hj
  rcases Deep.open_slice_pairs ht he ce o0 o1 c0 c1 hf with ⟨hcs, hx⟩ | ⟨a, len', cap', m, n, V0, V1, D0, D1, P0, P1, hcs, _, hl, hm, hmm, hx, hcell⟩
  · simp [Value.cells] at hcs
    obtain ⟨rfl, rfl, rfl⟩ := hcs
    exact ⟨none, 0, 0, [], rfl, .inl rfl, rfl, Nat.le_refl _, Nat.zero_le _⟩
  · simp [Value.cells] at hcs
    obtain ⟨rfl, rfl, rfl⟩ := hcs
    simp only [if_true] at hmm
    have hex : ∀ i, ∃ a : α, i < m → V0 i = f a ∧ V1 i = g a := by
      intro i
      by_cases hi : i < m
      · obtain ⟨_, _, t0, t1⟩ := hcell i hi
        obtain ⟨a, h0, h1⟩ := hmk _ _ _ _ _ t0 t1
        exact ⟨a, fun _ => ⟨h0, h1⟩⟩
      · exact ⟨default, fun h => absurd h hi⟩
    obtain ⟨F, hF⟩ := Classical.axiomOfChoice hex
    refine ⟨some a, len, cap, (List.range len).map F, rfl, ?_, by simp, hl, hm⟩
    rcases Nat.eq_zero_or_pos len with h0 | h0
    · subst h0; exact .inl rfl
    · obtain ⟨b, o, s⟩ := a
      cases s with
      | some s =>
        have := (hcell 0 (by omega)).1
        simp [World.cell?, Addr.add] at this
        split at this <;> simp_all
      | none =>
        refine .inr ⟨b, o, rfl, fun i u hi => ?_⟩
        have hil : i < len * 2 := by
          have := (List.getElem?_eq_some_iff.1 hi).1
          rw [pairsOf_length] at this
          simpa using this
        have hj : i / 2 < m := by omega
        obtain ⟨h1, h2, _, _⟩ := hcell (i / 2) hj
        have hg := pairsOf_get f g (l := (List.range len).map F) (i := i / 2) (a := F (i / 2)) (by rw [List.getElem?_map, List.getElem?_range (by omega)]; rfl)
        rw [addr_add] at h1 h2
        rcases Nat.mod_two_eq_zero_or_one i with e | e
        · have e2 : i / 2 * 2 = i := by omega
          rw [e2] at h1 hg
          rw [h1, (hF _ hj).1]
          exact hg.1.symm.trans hi
        · have e2 : i / 2 * 2 + 1 = i := by omega
          rw [e2] at h2 hg
          rw [h2, (hF _ hj).2]
          exact hg.2.symm.trans hi
end Go.Proofs.YtahaecieklfhkaaDoor
