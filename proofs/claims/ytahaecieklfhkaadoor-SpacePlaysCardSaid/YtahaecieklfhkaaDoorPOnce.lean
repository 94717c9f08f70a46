/- Plain facts for SpaceOnce: the maps that a law keeps beside a space. No program's function is named here. -/
import Derived.Test.YtahaecieklfhkaaDoorSpace5
import Derived.Test.YtahaecieklfhkaaDoorPParts
import Derived.Test.YtahaecieklfhkaaDoorMapRange
namespace Go.Proofs.YtahaecieklfhkaaDoor
open Go.RowKit

/-- int keys. -/
def kvJ (a : Int) : Value := .int .i64 a
theorem kvJ_key (a : Int) : MapKept.IsKey (.int .i64) (kvJ a) := rfl
theorem kvJ_inj (a c : Int) (h : kvJ a = kvJ c) : a = c := by injection h

theorem SF_some {g : Nat → Bool} {x : Int} {v : Value} : SF g x = some v ↔ 0 ≤ x ∧ g x.toNat = true ∧ v = .bool true := by
  unfold SF
  by_cases h : 0 ≤ x ∧ g x.toNat = true
  · rw [if_pos h]
    constructor
    · intro e; injection e with e; exact ⟨h.1, h.2, e.symm⟩
    · intro e; rw [e.2.2]
  · rw [if_neg h]
    constructor
    · intro e; cases e
    · intro e; exact absurd ⟨e.1, e.2.1⟩ h

/-- How many entries a map of numbers below N has. -/
theorem MapK.count {w : World} {b n N : Nat} {g : Nat → Bool} (h : MapK kvJ w b (SF g) n) (hg : ∀ a, N ≤ a → g a = false) : n = ((List.range N).filter g).length := by
  obtain ⟨es, clock, h1, h2, h3, h4, h5⟩ := h
  have hn2 : (((List.range N).filter g).map (fun k => kvJ (k : Nat))).Nodup := by
    have hr : ((List.range N).filter g).Nodup := List.nodup_range.sublist List.filter_sublist
    rw [List.nodup_iff_pairwise_ne] at hr ⊢
    rw [List.pairwise_map]
    exact hr.imp (fun hne e => hne (by have := kvJ_inj _ _ e; omega))
  have hp : (es.toList.map (·.key)).Perm (((List.range N).filter g).map (fun k => kvJ (k : Nat))) := by
    rw [List.perm_ext_iff_of_nodup h2.2.2 hn2]
    intro u
    rw [List.mem_map, List.mem_map]
    constructor
    · rintro ⟨x, hx, rfl⟩
      obtain ⟨a, ha⟩ := h3 x hx
      obtain ⟨ha0, hga, _⟩ := SF_some.1 ((h4 a x.val).2 ⟨x, hx, ha, rfl⟩)
      refine ⟨a.toNat, ?_, ?_⟩
      · rw [List.mem_filter, List.mem_range]
        refine ⟨?_, hga⟩
        apply Classical.byContradiction
        intro hn
        rw [hg _ (by omega)] at hga
        cases hga
      · rw [ha]; congr 1; omega
    · rintro ⟨k, hk, rfl⟩
      rw [List.mem_filter] at hk
      obtain ⟨x, hx, hxk, _⟩ := (h4 (k : Int) (.bool true)).1 (SF_some.2 ⟨by omega, by rw [Int.toNat_natCast]; exact hk.2, rfl⟩)
      exact ⟨x, hx, hxk⟩
  have := hp.length_eq
  simp at this
  omega

/-- Which blocks are had: those that are used, but the first one. -/
def hadG (S : Sp) (a : Nat) : Bool := decide (1 ≤ a) && mem S.used a
/-- What holds of the space of SpaceOnce. -/
structure OnceOk (S : Sp) : Prop where
  first : S.first = 1
  len : S.used.length = 9
  zero : mem S.used 0 = true
  taken : ∀ a, mem S.taken a = true → hadG S a = true
  given : ∀ a, mem S.given a = true → hadG S a = true
  tl : S.taken.length = 9
  gl : S.given.length = 9

theorem hadG_out {S : Sp} (h : OnceOk S) (a : Nat) (ha : 9 ≤ a) : hadG S a = false := by
  unfold hadG; rw [mem_out (by rw [h.len]; exact ha)]; simp
theorem once_count {S : Sp} (h : OnceOk S) : ((List.range 9).filter (hadG S)).length + S.used.count false = 8 := by
  have h1 : S.used.count true + S.used.count false = 9 := by
    rw [← h.len]
    generalize S.used = l
    induction l with
    | nil => rfl
    | cons x xs ih => cases x <;> simp <;> omega
  have h2 : S.used.count true = ((List.range 9).filter (fun a => mem S.used a)).length := by
    rw [← countP_getD S.used 9 (by rw [h.len]; exact Nat.le_refl _), List.countP_eq_length_filter]
  have e9 : List.range 9 = 0 :: (List.range 8).map Nat.succ := List.range_succ_eq_map
  have h3 : ((List.range 9).filter (fun a => mem S.used a)).length = 1 + ((List.range 9).filter (hadG S)).length := by
    rw [e9, List.filter_cons, List.filter_cons, h.zero]
    have h0 : hadG S 0 = false := by simp [hadG]
    rw [h0]
    have e : List.filter (hadG S) ((List.range 8).map Nat.succ) = List.filter (fun a => mem S.used a) ((List.range 8).map Nat.succ) := by
      apply List.filter_congr
      intro x hx
      obtain ⟨y, _, rfl⟩ := List.mem_map.1 hx
      simp [hadG]
    rw [e]
    simp only [if_true, List.length_cons]
    simp; omega
  omega

theorem once_new : OnceOk (Sp.new 9 1 0 0) := by
  refine ⟨rfl, by decide, by decide, ?_, ?_, by decide, by decide⟩
  · intro a h; have : mem (Sp.new 9 1 0 0).taken a = false := mem_none 9 a; rw [this] at h; cases h
  · intro a h; have : mem (Sp.new 9 1 0 0).given a = false := mem_none 9 a; rw [this] at h; cases h
theorem once_new_maps : (∀ a, hadG (Sp.new 9 1 0 0) a = false) ∧ (∀ a, mem (Sp.new 9 1 0 0).taken a = false) ∧ (∀ a, mem (Sp.new 9 1 0 0).given a = false) := by
  refine ⟨fun a => ?_, fun a => mem_none 9 a, fun a => mem_none 9 a⟩
  by_cases h : 9 ≤ a
  · exact hadG_out once_new a h
  · have : ∀ a, a < 9 → hadG (Sp.new 9 1 0 0) a = false := by decide
    exact this a (by omega)

theorem mem_setI_eq (l : List Bool) (k a : Nat) (hk : k < l.length) : mem (setI l (k : Int) true) a = ((a == k) || mem l a) := by
  by_cases ha : a < l.length
  · rw [mem_setI l k a true ha]
    by_cases e : a = k
    · subst e; simp
    · have : (a == k) = false := by simpa using e
      rw [if_neg e, this]; rfl
  · rw [mem_out (by rw [setI_length]; omega), mem_out (by omega)]
    have : (a == k) = false := by simp; omega
    rw [this]; rfl

/-- A Take that answers k. -/
theorem once_take {S : Sp} (h : OnceOk S) {k : Nat} (ht : S.tk = some k) :
    1 ≤ k ∧ k < 9 ∧ hadG S k = false ∧ OnceOk S.takeS ∧ (∀ a, hadG S.takeS a = ((a == k) || hadG S a)) ∧ (∀ a, mem S.takeS.taken a = ((a == k) || mem S.taken a)) ∧ S.takeS.given = S.given := by
  obtain ⟨h1, h2, h3, h4⟩ := nextL_iff.1 ht
  rw [h.first] at h1
  have hk9 : k < 9 := by rw [← h.len]; exact h2
  have eS : S.takeS = { S with used := setI S.used k true, taken := setI S.taken k true } := by rw [Sp.takeS, ht]
  have hu : ∀ a, mem S.takeS.used a = ((a == k) || mem S.used a) := fun a => by rw [eS]; exact mem_setI_eq S.used k a h2
  have htk : ∀ a, mem S.takeS.taken a = ((a == k) || mem S.taken a) := fun a => by rw [eS]; exact mem_setI_eq S.taken k a (by rw [h.tl]; exact hk9)
  have hh : ∀ a, hadG S.takeS a = ((a == k) || hadG S a) := fun a => by
    unfold hadG
    rw [hu a]
    by_cases e : a = k
    · subst e; simp [h1]
    · have : (a == k) = false := by simpa using e
      rw [this]; rfl
  have hg : S.takeS.given = S.given := by rw [eS]
  refine ⟨h1, hk9, by simp [hadG, h3], ⟨by rw [eS]; exact h.first, by rw [eS]; show (setI S.used k true).length = 9; rw [setI_length]; exact h.len, by rw [hu, h.zero]; simp, ?_, ?_, by rw [eS]; show (setI S.taken k true).length = 9; rw [setI_length]; exact h.tl, by rw [hg]; exact h.gl⟩, hh, htk, hg⟩
  · intro a ha
    rw [htk, Bool.or_eq_true] at ha
    rw [hh, Bool.or_eq_true]
    rcases ha with ha | ha
    · exact .inl ha
    · exact .inr (h.taken a ha)
  · intro a ha
    rw [hg] at ha
    rw [hh, h.given a ha]; simp
theorem once_full {S : Sp} (h : OnceOk S) (ht : S.tk = none) : S.used.count false = 0 ∧ S.takeS = S := by
  refine ⟨?_, by rw [Sp.takeS, ht]⟩
  have h4 := nextL_none_iff.1 ht
  rw [List.count_eq_zero]
  intro hm
  obtain ⟨i, hi⟩ := List.getElem?_of_mem hm
  have hil := (List.getElem?_eq_some_iff.1 hi).1
  have hmi : mem S.used i = false := by rw [mem_get hil]; exact (List.getElem?_eq_some_iff.1 hi).2
  rcases Nat.eq_zero_or_pos i with h0 | h0
  · subst h0; rw [h.zero] at hmi; cases hmi
  · exact h4 i (by rw [h.first]; exact h0) hil hmi

/-- A Give. -/
theorem once_give {S : Sp} (h : OnceOk S) {k : Nat} (hk : k < 9) :
    ((S.giveE k == 0) = (hadG S k && !mem S.given k)) ∧ (hadG S k = false → S.giveS k = S) ∧
      (hadG S k = true → OnceOk (S.giveS k) ∧ (S.giveS k).used = S.used ∧ (S.giveS k).taken = S.taken ∧ ∀ a, mem (S.giveS k).given a = ((a == k) || mem S.given a)) := by
  have hmu := memI_nat S.used k
  have hmg := memI_nat S.given k
  rcases Nat.eq_zero_or_pos k with h0 | h0
  · subst h0
    have hc : S.chk ((0 : Nat) : Int) = 3 := by unfold Sp.chk; rw [if_pos]; left; rw [h.first]; decide
    have hh : hadG S 0 = false := by simp [hadG]
    have hne : ¬ S.chk ((0 : Nat) : Int) = 0 := by rw [hc]; decide
    refine ⟨?_, fun _ => ?_, fun hf => by rw [hh] at hf; cases hf⟩
    · rw [Sp.giveE, if_neg hne, hc, hh]; rfl
    · rw [Sp.giveS, if_neg hne]
  · have hc : S.chk (k : Int) = 0 := by unfold Sp.chk; rw [if_neg]; rw [h.first, h.len]; omega
    have hd : decide (1 ≤ k) = true := by simp; omega
    have hh : hadG S k = mem S.used k := by unfold hadG; rw [hd]; rfl
    refine ⟨?_, fun hf => ?_, fun hf => ?_⟩
    · rw [Sp.giveE, if_pos hc, hmu, hmg, hh]
      cases mem S.used k <;> cases mem S.given k <;> rfl
    · rw [hh] at hf
      rw [Sp.giveS, if_pos hc, hmu, hf]; rfl
    · have hf2 := hf
      rw [hh] at hf
      have eS : S.giveS k = { S with given := setI S.given k true } := by rw [Sp.giveS, if_pos hc, hmu, hf]; rfl
      have hg : ∀ a, mem (S.giveS k).given a = ((a == k) || mem S.given a) := fun a => by rw [eS]; exact mem_setI_eq S.given k a (by rw [h.gl]; exact hk)
      have hhad : ∀ a, hadG (S.giveS k) a = hadG S a := fun a => by rw [eS]; rfl
      refine ⟨⟨by rw [eS]; exact h.first, by rw [eS]; exact h.len, by rw [eS]; exact h.zero, ?_, ?_, by rw [eS]; exact h.tl, by rw [eS]; show (setI S.given k true).length = 9; rw [setI_length]; exact h.gl⟩, by rw [eS], by rw [eS], hg⟩
      · intro a ha
        rw [hhad]; apply h.taken; rw [eS] at ha; exact ha
      · intro a ha
        rw [hhad]
        rw [hg, Bool.or_eq_true] at ha
        rcases ha with ha | ha
        · have : a = k := by simpa using ha
          subst this; exact hf2
        · exact h.given a ha

/-- Settle, Undo: those of a list are free. -/
theorem once_free {S : Sp} (h : OnceOk S) {l : List Bool} (hl : ∀ a, mem l a = true → hadG S a = true) :
    OnceOk (S.freeS (onL l)) ∧ (∀ a, hadG (S.freeS (onL l)) a = (hadG S a && !mem l a)) ∧ (∀ a, mem (S.freeS (onL l)).taken a = false) ∧ (∀ a, mem (S.freeS (onL l)).given a = false) := by
  have hlen : (minus S.used (onL l)).length = 9 := by rw [minus_length]; exact h.len
  have hu : ∀ a, mem (S.freeS (onL l)).used a = (mem S.used a && !mem l a) := fun a => by
    show mem (minus S.used (onL l)) a = _
    by_cases ha : a < S.used.length
    · rw [mem_minus _ _ _ ha, mem_onL]
    · rw [mem_out (by rw [minus_length]; omega), mem_out (l := S.used) (by omega)]; rfl
  have hh : ∀ a, hadG (S.freeS (onL l)) a = (hadG S a && !mem l a) := fun a => by
    unfold hadG; rw [hu a]; cases decide (1 ≤ a) <;> rfl
  have ht : ∀ a, mem (S.freeS (onL l)).taken a = false := fun a => mem_none _ a
  have hg : ∀ a, mem (S.freeS (onL l)).given a = false := fun a => mem_none _ a
  have hl0 : mem l 0 = false := by
    cases e : mem l 0
    · rfl
    · have := hl 0 e; simp [hadG] at this
  refine ⟨⟨h.first, hlen, by rw [hu, h.zero, hl0]; rfl, fun a ha => ?_, fun a ha => ?_, ?_, ?_⟩, hh, ht, hg⟩
  · rw [ht] at ha; cases ha
  · rw [hg] at ha; cases ha
  · show (List.replicate (minus S.used (onL l)).length false).length = 9; rw [List.length_replicate]; exact hlen
  · show (List.replicate (minus S.used (onL l)).length false).length = 9; rw [List.length_replicate]; exact hlen
end Go.Proofs.YtahaecieklfhkaaDoor
