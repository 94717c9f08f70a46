/- Plain facts on a heap that lies in a row, told by the numbers that stand at its places. No program is named here. -/
import Derived.Test.YtahaecieklfhkaaBase
namespace Go.Proofs.Ytahaecieklfhkaa

/-- Two places' values exchanged. -/
def exch (u : Nat → Nat) (i j : Nat) : Nat → Nat := fun k => if k = i then u j else if k = j then u i else u k

/-- No place's value is less than its parent's. -/
def Hp (u : Nat → Nat) (n : Nat) : Prop := ∀ k, k < n → 0 < k → u ((k - 1) / 2) ≤ u k
/-- So it is but perhaps between i and its children (and, where nothing was exchanged yet, between i and its parent). -/
def DownOk (u : Nat → Nat) (n i0 i : Nat) : Prop :=
  (∀ k, k < n → 0 < k → (k - 1) / 2 ≠ i → (k ≠ i0 ∨ i ≠ i0) → u ((k - 1) / 2) ≤ u k) ∧ (0 < i → ∀ k, k < n → 0 < k → (k - 1) / 2 = i → u ((i - 1) / 2) ≤ u k)
/-- So it is but perhaps between j and its parent. -/
def UpOk (u : Nat → Nat) (n j : Nat) : Prop :=
  (∀ k, k < n → 0 < k → k ≠ j → u ((k - 1) / 2) ≤ u k) ∧ (0 < j → ∀ k, k < n → 0 < k → (k - 1) / 2 = j → u ((j - 1) / 2) ≤ u k)

theorem exch_l (u : Nat → Nat) (i j : Nat) : exch u i j i = u j := by simp [exch]
theorem exch_r (u : Nat → Nat) (i j : Nat) (h : i ≠ j) : exch u i j j = u i := by simp [exch]; intro e; exact absurd e.symm h
theorem exch_o (u : Nat → Nat) (i j k : Nat) (h1 : k ≠ i) (h2 : k ≠ j) : exch u i j k = u k := by simp [exch, h1, h2]

theorem down_step {u : Nat → Nat} {n i0 i j : Nat} (h : DownOk u n i0 i) (h0 : i0 ≤ i) (hj : j < n) (hc : (j - 1) / 2 = i) (hj0 : 0 < j) (hlt : u j < u i)
    (ho : ∀ k, k < n → 0 < k → (k - 1) / 2 = i → u j ≤ u k) : DownOk (exch u i j) n i0 j := by
  have hij : i < j := by omega
  refine ⟨fun k hk k0 hp _ => ?_, fun _ k hk k0 hp => ?_⟩
  · by_cases hpi : (k - 1) / 2 = i
    · rw [hpi, exch_l]
      by_cases hkj : k = j
      · rw [hkj, exch_r _ _ _ (by omega)]; omega
      · rw [exch_o _ _ _ _ (by omega) hkj]; exact ho k hk k0 hpi
    · by_cases hki : k = i
      · subst hki
        rw [exch_l, exch_o _ _ _ _ (by omega) (by omega)]
        exact h.2 (by omega) j hj hj0 hc
      · rw [exch_o _ _ _ _ hpi hp, exch_o _ _ _ _ hki (by omega)]
        exact h.1 k hk k0 hpi (by omega)
  · rw [hc, exch_l, exch_o _ _ _ _ (by omega) (by omega)]
    have := h.1 k hk k0 (by omega) (by omega)
    rw [hp] at this; exact this

/-- Where no child is less: moved, it is a heap. -/
theorem down_end {u : Nat → Nat} {n i0 i : Nat} (h : DownOk u n i0 i) (hc : ∀ k, k < n → 0 < k → (k - 1) / 2 = i → u i ≤ u k) (hm : i ≠ i0) : Hp u n := by
  intro k hk k0
  by_cases hp : (k - 1) / 2 = i
  · rw [hp]; exact hc k hk k0 hp
  · exact h.1 k hk k0 hp (.inr hm)
/-- .. not moved: all but perhaps with its parent. -/
theorem down_still {u : Nat → Nat} {n i : Nat} (h : DownOk u n i i) (hc : ∀ k, k < n → 0 < k → (k - 1) / 2 = i → u i ≤ u k) : UpOk u n i := by
  refine ⟨fun k hk k0 hki => ?_, h.2⟩
  by_cases hp : (k - 1) / 2 = i
  · rw [hp]; exact hc k hk k0 hp
  · exact h.1 k hk k0 hp (.inl hki)
theorem up_step {u : Nat → Nat} {n j : Nat} (h : UpOk u n j) (hj : j < n) (hj0 : 0 < j) (hlt : u j < u ((j - 1) / 2)) : UpOk (exch u ((j - 1) / 2) j) n ((j - 1) / 2) := by
  have hij : (j - 1) / 2 < j := by omega
  generalize hi : (j - 1) / 2 = i at *
  refine ⟨fun k hk k0 hki => ?_, fun i0 k hk k0 hp => ?_⟩
  · by_cases hkj : k = j
    · rw [hkj, hi, exch_l, exch_r _ _ _ (by omega)]; omega
    · rw [exch_o _ _ _ k hki hkj]
      by_cases hpj : (k - 1) / 2 = j
      · rw [hpj, exch_r _ _ _ (by omega)]
        have := h.2 hj0 k hk k0 hpj
        rw [hi] at this; exact this
      · by_cases hpi : (k - 1) / 2 = i
        · rw [hpi, exch_l]
          have := h.1 k hk k0 hkj
          rw [hpi] at this; omega
        · rw [exch_o _ _ _ _ hpi hpj]; exact h.1 k hk k0 hkj
  · rw [exch_o _ _ _ ((i - 1) / 2) (by omega) (by omega)]
    have h1 := h.1 i (by omega) i0 (by omega)
    by_cases hkj : k = j
    · rw [hkj, exch_r _ _ _ (by omega)]; exact h1
    · rw [exch_o _ _ _ k (by omega) hkj]
      have h2 := h.1 k hk k0 hkj
      rw [hp] at h2; omega
theorem up_end {u : Nat → Nat} {n j : Nat} (h : UpOk u n j) (he : j = 0 ∨ u ((j - 1) / 2) ≤ u j) : Hp u n := by
  intro k hk k0
  by_cases hkj : k = j
  · rcases he with he | he
    · omega
    · rw [hkj]; exact he
  · exact h.1 k hk k0 hkj
/-- The first is the least. -/
theorem hp_first {u : Nat → Nat} {n : Nat} (h : Hp u n) : ∀ k, k < n → u 0 ≤ u k := by
  intro k
  induction k using Nat.strongRecOn with
  | _ k ih =>
    intro hk
    by_cases h0 : k = 0
    · subst h0; exact Nat.le_refl _
    · exact Nat.le_trans (ih ((k - 1) / 2) (by omega) (by omega)) (h k hk (by omega))
/-- One value was raised. -/
theorem down_start {u v : Nat → Nat} {n i : Nat} (h : Hp u n) (hi : i < n) (ho : ∀ k, k < n → k ≠ i → v k = u k) : DownOk v n i i := by
  refine ⟨fun k hk k0 hp hki => ?_, fun h0 k hk k0 hp => ?_⟩
  · have hki : k ≠ i := by omega
    rw [ho _ (by omega) hp, ho k hk hki]; exact h k hk k0
  · rw [ho _ (by omega) (by omega), ho k hk (by omega)]
    have h1 := h k hk k0
    have h2 := h i hi h0
    rw [hp] at h1; omega
theorem up_start {u v : Nat → Nat} {n : Nat} (h : Hp u n) (ho : ∀ k, k < n → v k = u k) : UpOk v (n + 1) n := by
  refine ⟨fun k hk k0 hkn => ?_, fun h0 k hk k0 hp => by omega⟩
  rw [ho _ (by omega), ho k (by omega)]; exact h k (by omega) k0
theorem Hp.congr {u v : Nat → Nat} {n : Nat} (h : Hp u n) (ho : ∀ k, k < n → v k = u k) : Hp v n := by
  intro k hk k0
  rw [ho _ (by omega), ho k hk]; exact h k hk k0

section
variable {α : Type}
/-- A list with two places exchanged. -/
def lexch (l : List α) (i j : Nat) : List α :=
  match l[i]?, l[j]? with
  | some x, some y => (l.set i y).set j x
  | _, _ => l
theorem lexch_eq {l : List α} {i j : Nat} {x y : α} (hx : l[i]? = some x) (hy : l[j]? = some y) : lexch l i j = (l.set i y).set j x := by unfold lexch; rw [hx, hy]
theorem lexch_perm (l : List α) (i j : Nat) : (lexch l i j).Perm l := by
  unfold lexch
  split
  · rename_i x y hx hy
    obtain ⟨hi, rfl⟩ := List.getElem?_eq_some_iff.1 hx
    obtain ⟨hj, rfl⟩ := List.getElem?_eq_some_iff.1 hy
    have h := Array.swap_perm (xs := l.toArray) (i := i) (j := j) (by simpa using hi) (by simpa using hj)
    have h2 := Array.perm_iff_toList_perm.1 h
    rw [Array.toList_swap] at h2
    simpa using h2
  · exact List.Perm.refl _
theorem lexch_length (l : List α) (i j : Nat) : (lexch l i j).length = l.length := (lexch_perm l i j).length_eq
theorem lexch_get {l : List α} {i j : Nat} {x y : α} (hx : l[i]? = some x) (hy : l[j]? = some y) (k : Nat) : (lexch l i j)[k]? = if k = i then some y else if k = j then some x else l[k]? := by
  rw [lexch_eq hx hy]
  have hi := (List.getElem?_eq_some_iff.1 hx).1
  have hj := (List.getElem?_eq_some_iff.1 hy).1
  rw [List.getElem?_set, List.getElem?_set]
  by_cases h1 : k = i
  · subst h1
    by_cases h2 : j = k
    · subst h2
      rw [hx] at hy; injection hy with hy
      simp [hi, hy]
    · simp [h2, hi]
  · by_cases h2 : k = j
    · subst h2; simp [hj, h1]
    · simp [h1, h2, Ne.symm h1, Ne.symm h2]
end
end Go.Proofs.Ytahaecieklfhkaa
