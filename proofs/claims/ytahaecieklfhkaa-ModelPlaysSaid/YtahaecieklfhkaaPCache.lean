/- What a cache keeps, the one that was used last first: what remove, use and Put make of it. No program is named here. -/
import Derived.Test.YtahaecieklfhkaaCache10
namespace Go.Proofs.Ytahaecieklfhkaa

/-- A kept block. -/
structure Kept where
  addr : Int
  gen : Nat
  sum : Nat
  kind : Nat
  pay : ByteArray
def Ent.body (e : Ent) : Kept := ⟨e.addr, e.gen, e.sum, e.kind, e.pay⟩
/-- The entries, the one that was used last first, are R. -/
def Rel (E : List Ent) (R : List Kept) : Prop := ∃ D : List Ent, D.Perm E ∧ D.Pairwise (fun x y => y.used < x.used) ∧ R = D.map Ent.body
def others (a : Int) (R : List Kept) : List Kept := R.filter fun x => decide (x.addr ≠ a)
theorem rel_nil : Rel [] [] := ⟨[], List.Perm.refl _, List.Pairwise.nil, rfl⟩
theorem Rel.length {E : List Ent} {R : List Kept} (h : Rel E R) : R.length = E.length := by
  obtain ⟨D, hp, _, rfl⟩ := h
  rw [List.length_map]; exact hp.length_eq
theorem Rel.perm {E E1 : List Ent} {R : List Kept} (h : Rel E R) (hp : E1.Perm E) : Rel E1 R := by
  obtain ⟨D, h1, h2, h3⟩ := h
  exact ⟨D, h1.trans hp.symm, h2, h3⟩
theorem Rel.adr {E : List Ent} {R : List Kept} (h : Rel E R) (hn : (E.map Ent.addr).Nodup) : (R.map Kept.addr).Nodup := by
  obtain ⟨D, h1, _, rfl⟩ := h
  rw [List.map_map]
  exact (h1.map Ent.addr).nodup_iff.2 hn
theorem filter_keep {E : List Ent} {a : Int} (h : a ∉ E.map Ent.addr) : E.filter (fun x => decide (x.addr ≠ a)) = E := by
  rw [List.filter_eq_self]
  intro x hx
  simp only [decide_eq_true_eq]
  rintro rfl
  exact h (List.mem_map.2 ⟨x, hx, rfl⟩)
theorem others_none {R : List Kept} {a : Int} (h : a ∉ R.map Kept.addr) : others a R = R := by
  unfold others
  rw [List.filter_eq_self]
  intro x hx
  simp only [decide_eq_true_eq]
  rintro rfl
  exact h (List.mem_map.2 ⟨x, hx, rfl⟩)
theorem rel_filter {E E1 : List Ent} {e : Ent} {R : List Kept} (h : Rel E R) (hn : (E.map Ent.addr).Nodup) (hp : (E1 ++ [e]).Perm E) : Rel E1 (others e.addr R) := by
  obtain ⟨D, h1, h2, rfl⟩ := h
  have hn2 := (hp.map Ent.addr).nodup_iff.2 hn
  rw [List.map_append] at hn2
  have hne : e.addr ∉ E1.map Ent.addr := fun hx => (List.nodup_append.1 hn2).2.2 _ hx e.addr (by simp) rfl
  refine ⟨D.filter (fun x => decide (x.addr ≠ e.addr)), ?_, h2.filter _, ?_⟩
  · have a := (h1.trans hp.symm).filter (fun x => decide (x.addr ≠ e.addr))
    rw [List.filter_append, filter_keep hne] at a
    simpa using a
  · unfold others
    rw [List.filter_map]
    rfl
theorem rel_last {E E1 : List Ent} {e : Ent} {R : List Kept} (h : Rel E R) (hp : (E1 ++ [e]).Perm E) (hmin : ∀ x ∈ E, e.used ≤ x.used) : Rel E1 (R.take (R.length - 1)) := by
  obtain ⟨D, h1, h2, rfl⟩ := h
  have hDl : D.length = E1.length + 1 := by have a := h1.length_eq; have b := hp.length_eq; simp at b; omega
  obtain ⟨D1, hD, hl⟩ := last_split (e := D[E1.length]) hDl (List.getElem?_eq_getElem (by omega))
  generalize hz : D[E1.length]'(by omega) = z at hD
  have he : e ∈ D := (h1.trans hp.symm).mem_iff.2 (by simp)
  have hez : e = z := by
    rw [hD] at he
    rcases List.mem_append.1 he with he | he
    · rw [hD] at h2
      have := (List.pairwise_append.1 h2).2.2 e he z (by simp)
      have h3 := hmin z (h1.mem_iff.1 (by rw [hD]; simp))
      omega
    · simpa using he
  subst hez
  rw [hD] at h1 h2
  refine ⟨D1, ?_, (List.pairwise_append.1 h2).1, ?_⟩
  · exact (List.perm_append_right_iff [e]).1 (h1.trans hp.symm)
  · rw [hD, List.map_append]
    simp
theorem erase_perm {α : Type} : ∀ (l : List α) (i : Nat) (x : α), l[i]? = some x → (x :: l.eraseIdx i).Perm l
  | [], i, x, h => by simp at h
  | y :: l, 0, x, h => by
    simp at h; subst h; simp
  | y :: l, i + 1, x, h => by
    have ih := erase_perm l i x (by simpa using h)
    rw [List.eraseIdx_cons_succ]
    exact (List.Perm.swap y x _).trans (List.Perm.cons y ih)
theorem set_perm {E : List Ent} {i : Nat} {e f : Ent} (he : E[i]? = some e) : (E.set i f).Perm (f :: E.eraseIdx i) ∧ E.Perm (e :: E.eraseIdx i) := by
  have hi := (List.getElem?_eq_some_iff.1 he).1
  have h1 := erase_perm (E.set i f) i f (List.getElem?_set_self hi)
  have h2 := erase_perm E i e he
  rw [List.eraseIdx_set_eq] at h1
  exact ⟨h1.symm, h2.symm⟩
theorem rel_use {E E1 : List Ent} {i t : Nat} {e : Ent} {R : List Kept} (h : Rel E R) (hn : (E.map Ent.addr).Nodup) (he : E[i]? = some e) (hp : E1.Perm (E.set i (e.at (t + 1)))) (ht : ∀ x ∈ E, x.used ≤ t) : Rel E1 (e.body :: others e.addr R) := by
  obtain ⟨p1, p2⟩ := set_perm (f := e.at (t + 1)) he
  have hq : (E.eraseIdx i ++ [e]).Perm E := (List.perm_append_comm.trans (by simpa using p2.symm))
  obtain ⟨D, h1, h2, h3⟩ := rel_filter h hn hq
  refine ⟨e.at (t + 1) :: D, ?_, List.pairwise_cons.2 ⟨fun x hx => ?_, h2⟩, by rw [List.map_cons, ← h3]; rfl⟩
  · exact ((List.Perm.cons _ h1).trans p1.symm).trans hp.symm
  · have hx2 : x ∈ E := p2.mem_iff.2 (List.mem_cons_of_mem _ (h1.mem_iff.1 hx))
    have := ht x hx2
    show x.used < t + 1
    omega
theorem rel_new {E E1 E2 : List Ent} {t i : Nat} {e : Ent} {R : List Kept} (h : Rel E R) (hp1 : E1.Perm (E ++ [e])) (he : E1[i]? = some e) (_hn : ((E ++ [e]).map Ent.addr).Nodup) (hp2 : E2.Perm (E1.set i (e.at (t + 1)))) (ht : ∀ x ∈ E, x.used ≤ t) : Rel E2 (e.body :: R) := by
  obtain ⟨p1, p2⟩ := set_perm (f := e.at (t + 1)) he
  have hq : (E1.eraseIdx i).Perm E := by
    have a := (p2.symm.trans hp1).trans List.perm_append_comm
    exact (List.perm_cons e).1 (by simpa using a)
  obtain ⟨D, h1, h2, h3⟩ := h
  refine ⟨e.at (t + 1) :: D, ?_, List.pairwise_cons.2 ⟨fun x hx => ?_, h2⟩, by rw [List.map_cons, ← h3]; rfl⟩
  · exact ((List.Perm.cons _ (h1.trans hq.symm)).trans p1.symm).trans hp2.symm
  · have := ht x (h1.mem_iff.1 hx)
    show x.used < t + 1
    omega

/-- Put's, of at most n. -/
def putK (n : Nat) (R : List Kept) (x : Kept) : List Kept := x :: (others x.addr R).take (n - 1)
/-- Is it the one that is asked for? -/
def Kept.is (x : Kept) (a : Int) (g s : Nat) : Bool := decide (x.addr = a) && decide (x.gen = g) && decide (x.sum = s)
def getK (R : List Kept) (a : Int) (g s : Nat) : Option Kept := R.find? (fun x => x.is a g s)
/-- What is kept behind a Get. -/
def gotK (R : List Kept) (a : Int) (g s : Nat) : List Kept := match getK R a g s with
  | some x => x :: others a R
  | none => R
end Go.Proofs.Ytahaecieklfhkaa
