/- Plain facts for BitsParts: which numbers have been seen, and how many. No program is named here. -/
import Derived.Test.YtahaecieklfhkaaDoorMapBase
import Derived.Test.YtahaecieklfhkaaDoorBits5
namespace Go.Proofs.YtahaecieklfhkaaDoor

/-- A set of numbers, as a map to true. -/
def SF (g : Nat → Bool) : Int → Option Value := fun a => if 0 ≤ a ∧ g a.toNat = true then some (.bool true) else none
theorem SF_get (g : Nat → Bool) (k : Nat) : SF g (k : Int) = if g k = true then some (.bool true) else none := by
  unfold SF
  rw [Int.toNat_natCast]
  by_cases h : g k = true
  · rw [if_pos h, if_pos ⟨by omega, h⟩]
  · rw [if_neg h, if_neg (fun hh => h hh.2)]
theorem SF_put (g : Nat → Bool) (k : Nat) : putF (SF g) (k : Int) (.bool true) = SF (fun a => (a == k) || g a) := by
  funext x
  unfold putF SF
  by_cases h : x = (k : Int)
  · subst h; simp
  · rw [if_neg h]
    by_cases h0 : 0 ≤ x
    · have : (x.toNat == k) = false := by simp; omega
      simp [this]
    · simp [h0]
theorem SF_congr {g h : Nat → Bool} (e : ∀ a, g a = h a) : SF g = SF h := by rw [funext e]

/-- Those below F whose being of a set is 'is', counted. -/
def cnt (L : List Bool) (is : Bool) (F : Nat) : Nat := ((List.range F).filter (fun k => mem L k == is)).length
theorem cnt_le (L : List Bool) (is : Bool) (F : Nat) : cnt L is F ≤ F := by
  unfold cnt; have := List.length_filter_le (fun k => mem L k == is) (List.range F); simpa using this
theorem cnt_skip {L : List Bool} {is : Bool} {F k : Nat} (hF : F ≤ k) (h : ∀ j, F ≤ j → j < k → mem L j ≠ is) : cnt L is k = cnt L is F := by
  unfold cnt
  rw [filter_none hF (fun j h1 h2 => by have := h j h1 h2; simpa using this)]
theorem cnt_some {L : List Bool} {is : Bool} {F k : Nat} (h : nextL L F is = some k) : cnt L is (k + 1) = cnt L is F + 1 := by
  obtain ⟨h1, h2, h3, h4⟩ := nextL_iff.1 h
  rw [← cnt_skip h1 h4]
  unfold cnt
  rw [List.range_succ, List.filter_append, List.length_append]
  simp [h3]
theorem cnt_none {L : List Bool} {is : Bool} {F : Nat} (hF : F ≤ L.length) (h : nextL L F is = none) : cnt L is L.length = cnt L is F :=
  cnt_skip hF (fun j h1 h2 => nextL_none_iff.1 h j h1 h2)
theorem cnt_true (L : List Bool) : cnt L true L.length = L.count true := by
  rw [← countP_getD L L.length (Nat.le_refl _), List.countP_eq_length_filter]
  unfold cnt
  congr 1
  apply List.filter_congr
  intro x _
  cases mem L x <;> rfl
theorem cnt_both (L : List Bool) (F : Nat) : cnt L true F + cnt L false F = F := by
  induction F with
  | zero => rfl
  | succ F ih =>
    have e : ∀ is, cnt L is (F + 1) = cnt L is F + (if mem L F = is then 1 else 0) := by
      intro is
      unfold cnt
      rw [List.range_succ, List.filter_append, List.length_append]
      congr 1
      by_cases h : mem L F = is
      · simp [h]
      · simp [h]
    rw [e true, e false]
    cases h : mem L F <;> simp <;> omega

/-- What has been seen in pass i (0: those that are; 1: those that aren't), up to F. -/
def seenG (L : List Bool) (i F : Nat) (a : Nat) : Bool := (decide (a < F) && decide (a < L.length) && (mem L a == decide (i = 0))) || (decide (1 ≤ i) && mem L a)
theorem seenG_some {L : List Bool} {i F k : Nat} (h : nextL L F (decide (i = 0)) = some k) (a : Nat) : (a == k || seenG L i F a) = seenG L i (k + 1) a := by
  obtain ⟨h1, h2, h3, h4⟩ := nextL_iff.1 h
  unfold seenG
  by_cases e : a = k
  · subst e; simp [h2, h3]
  · have e1 : (a == k) = false := by simpa using e
    rw [e1, Bool.false_or]
    by_cases hF : a < F
    · have : a < k + 1 := by omega
      simp [hF, this]
    · by_cases hk : a < k + 1
      · have := h4 a (by omega) (by omega)
        have hb : (mem L a == decide (i = 0)) = false := by simpa using this
        simp [hF, hb]
      · simp [hF, hk]
theorem seenG_new {L : List Bool} {i F k : Nat} (hi : i < 2) (h : nextL L F (decide (i = 0)) = some k) : seenG L i F k = false := by
  obtain ⟨h1, h2, h3, h4⟩ := nextL_iff.1 h
  unfold seenG
  have : ¬ k < F := by omega
  rcases (show i = 0 ∨ i = 1 by omega) with rfl | rfl
  · simp [this]
  · simp at h3
    simp [this, h3]
theorem seenG_none {L : List Bool} {i F : Nat} (hi : i < 2) (h : nextL L F (decide (i = 0)) = none) (a : Nat) : seenG L i F a = (if i = 0 then seenG L 1 0 a else decide (a < L.length)) := by
  have h4 := nextL_none_iff.1 h
  unfold seenG
  by_cases hl : a < L.length
  · have h5 : ¬ a < F → mem L a ≠ decide (i = 0) := fun hn => h4 a (by omega) hl
    rcases (show i = 0 ∨ i = 1 by omega) with rfl | rfl
    · cases hm : mem L a
      · simp
      · have : a < F := by
          apply Classical.byContradiction; intro hn
          exact absurd hm (by simpa using h5 hn)
        simp [this, hl]
    · cases hm : mem L a
      · have : a < F := by
          apply Classical.byContradiction; intro hn
          have := h5 hn; simp [hm] at this
        simp [this, hl]
      · simp [hl]
  · have hm : mem L a = false := mem_out (by omega)
    rcases (show i = 0 ∨ i = 1 by omega) with rfl | rfl <;> simp [hl, hm]
theorem seenG_start (L : List Bool) (a : Nat) : seenG L 0 0 a = false := by simp [seenG]

/-- How many have been counted ahead of pass i. -/
def cAt (L : List Bool) (i : Nat) : Nat := (if 1 ≤ i then cnt L true L.length else 0) + (if 2 ≤ i then cnt L false L.length else 0)
/-- The two counts ahead of pass i, as cells. -/
def csAt (L : List Bool) (i : Nat) : List Value := [.int .i64 ((if 1 ≤ i then cnt L true L.length else 0 : Nat) : Int), .int .i64 ((if 2 ≤ i then cnt L false L.length else 0 : Nat) : Int)]
theorem csAt_start (L : List Bool) (i : Nat) (hi : i < 2) : (csAt L i).set i (.int .i64 ((0 : Nat) : Int)) = csAt L i := by
  rcases (show i = 0 ∨ i = 1 by omega) with rfl | rfl <;> rfl
theorem csAt_end (L : List Bool) (i : Nat) (hi : i < 2) : (csAt L i).set i (.int .i64 ((cnt L (decide (i = 0)) L.length : Nat) : Int)) = csAt L (i + 1) := by
  rcases (show i = 0 ∨ i = 1 by omega) with rfl | rfl <;> rfl
theorem cAt_end (L : List Bool) (i : Nat) (hi : i < 2) : cAt L i + cnt L (decide (i = 0)) L.length = cAt L (i + 1) := by
  rcases (show i = 0 ∨ i = 1 by omega) with rfl | rfl
  · simp [cAt]
  · simp [cAt]
theorem csAt_get (L : List Bool) (i : Nat) (hi : i < 2) (v : Value) : ((csAt L i).set i v)[i]? = some v := by
  rcases (show i = 0 ∨ i = 1 by omega) with rfl | rfl <;> rfl
end Go.Proofs.YtahaecieklfhkaaDoor
