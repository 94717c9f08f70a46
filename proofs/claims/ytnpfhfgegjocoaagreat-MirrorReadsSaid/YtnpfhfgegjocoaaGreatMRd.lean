/- MirrorReads's arguments: a slice of texts, a slice of harms. -/
import Derived.Test.YtnpfhfgegjocoaaGreatMI
import Derived.Test.YtnpfhfgegjocoaaGreatMJ
import Derived.Test.YtnpfhfgegjocoaaGreatMSeq
import Derived.Test.YtnpfhfgegjocoaaGreatMK
import Derived.Test.YtnpfhfgegjocoaaGreatMG
import Derived.OpenShut
/- MirrorReads, plainly: how many places may be bad; what harms one copy of a block; what a block's Read and its two Checks leave. -/
namespace Go.Proofs.YtnpfhfgegjocoaaGreat

/-- No sector behind the blocks' own is bad. -/
def Spare (B : Nat) (P : Pr) : Prop := ∀ d, d < 2 → ∀ j, B + 4 ≤ j → (P.dev d).bad.getD j false = false
theorem Spare.alike {B : Nat} {P P' : Pr} (h : Spare B P) (g : Alike P P') : Spare B P' := fun d hd j hj => by rw [g.bad d hd]; exact h d hd j hj
theorem addB_le (l : List (Nat × Nat)) (a : Nat × Nat) : (addB l a).length ≤ l.length + 1 := by
  unfold addB
  split
  · omega
  · simp
theorem addB_in {l : List (Nat × Nat)} {a : Nat × Nat} (h : a ∈ l) : addB l a = l := if_pos h
theorem mem_addB (l : List (Nat × Nat)) (a : Nat × Nat) : a ∈ addB l a := by
  unfold addB
  split
  · assumption
  · simp
theorem addB_keep {l : List (Nat × Nat)} {a c : Nat × Nat} (h : c ∈ l) : c ∈ addB l a := by
  unfold addB
  split
  · exact h
  · exact List.mem_append_left _ h
theorem remB_le (l : List (Nat × Nat)) (a : Nat × Nat) : (remB l a).length ≤ l.length := List.length_filter_le _ _
theorem remB_keep {l : List (Nat × Nat)} {a c : Nat × Nat} (h : c ∈ l) (hne : c ≠ a) : c ∈ remB l a := List.mem_filter.2 ⟨h, decide_eq_true hne⟩
/-- The bad places and the moved blocks. -/
def Mi.wt (M : Mi) : Nat := M.bl.length + ((M.P.tab 0).moved.length + (M.P.tab 1).moved.length)
section
variable {B z n c : Nat} {M : Mi}
theorem Gm.put_wt (h : Gm B z n c M) (hsp : Spare B M.P) {s i : Nat} (hs : s < 2) (hi : i < B) {x : ByteArray} (hx : x.size = z) {k : Nat} {M' : Mi} (e : M.put s i x = (k, M')) :
    M'.wt ≤ M.wt + 1 ∧ ((M.P.read s (i : Int)).2 = 0 → M'.wt ≤ M.wt) ∧ (k = 9 → (s, i) ∈ M'.bl) ∧ ((s, i) ∈ M.bl → k = 9 → M'.wt ≤ M.wt) ∧ ∀ a ∈ M.bl, a ≠ (s, i) → a ∈ M'.bl := by
  have hib : i < (M.P.tab s).blocks := by rw [h.blocks s hs]; exact hi
  have hxs : x.size = (M.P.dev 0).size := by rw [hx, h.size]
  have hsn : (M.P.tab s).spares = n := by rw [(h.pi.slots s hs).spares, h.nn]
  obtain ⟨P', hw⟩ : ∃ P', Pr.write (M.P.n + 1) M.P s (i : Int) x = (k, P') := by
    refine ⟨(Pr.write (M.P.n + 1) M.P s (i : Int) x).2, ?_⟩
    have := congrArg Prod.fst e
    unfold Mi.put at this
    simp only at this
    rw [← this]
  have hM : M' = { M with P := P', bl := if k = 9 then addB M.bl (s, i) else if k = 0 then remB M.bl (s, i) else M.bl } := by
    have := congrArg Prod.snd e
    unfold Mi.put at this
    simp only at this
    rw [hw] at this
    exact this.symm
  have hkeep : ∀ a ∈ M.bl, a ≠ (s, i) → a ∈ M'.bl := fun a ha hne => by
    rw [hM]
    show a ∈ if k = 9 then addB M.bl (s, i) else if k = 0 then remB M.bl (s, i) else M.bl
    split
    · exact addB_keep ha
    · split
      · exact remB_keep ha hne
      · exact ha
  have hin : k = 9 → (s, i) ∈ M'.bl := fun k9 => by
    rw [hM]
    show (s, i) ∈ if k = 9 then addB M.bl (s, i) else if k = 0 then remB M.bl (s, i) else M.bl
    rw [if_pos k9]
    exact mem_addB _ _
  have hwt : M'.wt = M'.bl.length + ((P'.tab 0).moved.length + (P'.tab 1).moved.length) := by rw [hM]; rfl
  have hrem : k = 0 → M'.bl.length ≤ M.bl.length := fun k0 => by
    rw [hM]
    show (if k = 9 then addB M.bl (s, i) else if k = 0 then remB M.bl (s, i) else M.bl).length ≤ _
    rw [if_neg (by omega), if_pos k0]
    exact remB_le _ _
  cases hb : (M.P.dev s).bad.getD (((M.P.tab s).at_ (i : Int)).1 + 4) false with
  | false =>
    obtain ⟨P1, e1, _, t1, _⟩ := write_good h.pi hs hib hxs hb M.P.n
    rw [e1] at hw
    injection hw with k0 hP
    subst hP
    have hl := hrem k0.symm
    have : M'.wt ≤ M.wt := by
      rw [hwt, t1]
      unfold Mi.wt
      omega
    exact ⟨by omega, fun _ => this, hin, fun _ _ => this, hkeep⟩
  | true =>
    have h7 : (M.P.read s (i : Int)).2 = 0 → M'.wt ≤ M.wt := fun h0 => by
      rw [read_bad h.pi hs hib hb] at h0; cases h0
    rw [write_bad h.pi hs hib hxs hb M.P.n] at hw
    by_cases hm : (M.P.tab s).moved.length < (M.P.tab s).spares
    · have hmv := Tab.mv_ok hib hm
      obtain ⟨P1, e1, hP1, ht1, hst1, _⟩ := move_inv (i := (i : Int)) h.pi hs (by rw [hmv])
      rw [e1] at hw
      simp only [ne_eq, not_true_eq_false, if_false] at hw
      obtain ⟨n', hn'⟩ : ∃ n', M.P.n = n' + 1 := ⟨M.P.n - 1, by have := h.nn; omega⟩
      rw [hn'] at hw
      have hts : P1.tab s = { M.P.tab s with moved := (M.P.tab s).moved ++ [i] } := by rw [ht1]; simp
      have hat : ((P1.tab s).at_ (i : Int)).1 = B + (M.P.tab s).moved.length := by
        rw [hts, Tab.at_moved hib, if_pos rfl, h.blocks s hs]
      have hb1 : (P1.dev s).bad.getD (((P1.tab s).at_ (i : Int)).1 + 4) false = false := by
        rw [(hst1.same s hs).bad _ (by omega), hat]
        exact hsp s hs _ (by omega)
      obtain ⟨P2, e2, _, t2, _⟩ := write_good hP1 hs (i := i) (by rw [hts]; exact hib) (by rw [hx, ← h.size]; exact (hst1.same 0 (by decide)).size.symm) hb1 n'
      rw [e2] at hw
      injection hw with k0 hP
      subst hP
      have hl := hrem k0.symm
      have hwt1 : M'.wt ≤ M.wt + 1 := by
        rw [hwt, t2]
        unfold Mi.wt
        rw [ht1]
        rcases two_cases hs with rfl | rfl
        · simp; omega
        · simp; omega
      exact ⟨hwt1, h7, hin, fun _ k9 => by omega, hkeep⟩
    · have hmv := Tab.mv_full hib hm
      have e1 : M.P.move s (i : Int) = (9, M.P) := by unfold Pr.move; rw [hmv]; simp
      rw [e1] at hw
      simp only [ne_eq] at hw
      rw [if_pos (by simp)] at hw
      injection hw with k9 hP
      subst hP
      have hbl : M'.bl = addB M.bl (s, i) := by
        rw [hM]
        show (if k = 9 then addB M.bl (s, i) else if k = 0 then remB M.bl (s, i) else M.bl) = _
        rw [if_pos k9.symm]
      have := addB_le M.bl (s, i)
      refine ⟨?_, h7, hin, fun hmem _ => ?_, hkeep⟩
      · rw [hwt, hbl]
        unfold Mi.wt
        omega
      · rw [hwt, hbl, addB_in hmem]
        exact Nat.le_refl _
/-- A side's copy is whole, or its place is bad and no spare is left. -/
def DoneW (n : Nat) (M : Mi) (X : ByteArray) (i s : Nat) : Prop := M.P.read s (i : Int) = (X, 0) ∨ (M.P.read s (i : Int)).2 = 7 ∧ (M.P.tab s).moved.length = n ∧ (s, i) ∈ M.bl
open Classical in
/-- What there is, and what there is to do. -/
noncomputable def pot (n : Nat) (M : Mi) (X : ByteArray) (i : Nat) : Nat := M.wt + ((if DoneW n M X i 0 then 0 else 1) + if DoneW n M X i 1 then 0 else 1)
theorem Gm.put_pot (h : Gm B z n c M) (hsp : Spare B M.P) {s i : Nat} (hs : s < 2) (hi : i < B) {X : ByteArray} (hx : X.size = z) {k : Nat} {M' : Mi} (e : M.put s i X = (k, M')) : pot n M' X i ≤ pot n M X i := by
  obtain ⟨w1, w2, w3, w4, w5⟩ := h.put_wt hsp hs hi hx e
  obtain ⟨k2, M2, e2, _, _, o, q, f, _, _⟩ := h.put hs hi hx
  rw [e] at e2
  injection e2 with ek eM
  subst ek; subst eM
  have hd : DoneW n M' X i s := by
    rcases q with ⟨rfl, hr⟩ | ⟨rfl, _, h7, hf⟩
    · exact .inl hr
    · exact .inr ⟨h7, hf, w3 rfl⟩
  have hd0 : DoneW n M X i s → M'.wt ≤ M.wt := fun hd => by
    rcases hd with hd | ⟨h7, hf, hm⟩
    · exact w2 (by rw [hd])
    · have := (h.put_full hs hi hx h7 hf).1
      rw [e] at this
      exact w4 hm this
  have ho : ∀ t, t < 2 → t ≠ s → DoneW n M X i t → DoneW n M' X i t := fun t ht hne hd => by
    have hr := o t i ht hi (.inl hne)
    rcases hd with hd | ⟨h7, hf, hm⟩
    · exact .inl (hr.trans hd)
    · exact .inr ⟨by rw [hr]; exact h7, f t ht hf, w5 _ hm (fun e => hne (congrArg Prod.fst e))⟩
  unfold pot
  rcases two_cases hs with rfl | rfl
  · have h1 := ho 1 (by decide) (by decide)
    by_cases a0 : DoneW n M X i 0
    · have := hd0 a0
      by_cases a1 : DoneW n M X i 1
      · rw [if_pos hd, if_pos a0, if_pos a1, if_pos (h1 a1)]; omega
      · rw [if_pos hd, if_pos a0, if_neg a1]; split <;> omega
    · by_cases a1 : DoneW n M X i 1
      · rw [if_pos hd, if_neg a0, if_pos a1, if_pos (h1 a1)]; omega
      · rw [if_pos hd, if_neg a0, if_neg a1]; split <;> omega
  · have h1 := ho 0 (by decide) (by decide)
    by_cases a0 : DoneW n M X i 1
    · have := hd0 a0
      by_cases a1 : DoneW n M X i 0
      · rw [if_pos hd, if_pos a0, if_pos a1, if_pos (h1 a1)]; omega
      · rw [if_pos hd, if_pos a0, if_neg a1]; split <;> omega
    · by_cases a1 : DoneW n M X i 0
      · rw [if_pos hd, if_neg a0, if_pos a1, if_pos (h1 a1)]; omega
      · rw [if_pos hd, if_neg a0, if_neg a1]; split <;> omega
theorem Gm.repair_pot (h : Gm B z n c M) (hsp : Spare B M.P) {s i : Nat} (hs : s < 2) (hi : i < B) {X : ByteArray} (hx : X.size = z) : pot n (M.repair s i X).2 X i ≤ pot n M X i := by
  rw [h.repair_eq hs]
  have hp := h.put_pot hsp hs hi hx (k := (M.put s i X).1) (M' := (M.put s i X).2) rfl
  simp only
  split
  · exact hp
  · exact hp
theorem Gm.healS_pot (h : Gm B z n c M) (hsp : Spare B M.P) {s i : Nat} (hs : s < 2) (hi : i < B) {X : ByteArray} (hx : X.size = z) : pot n (M.healS s i X).2 X i ≤ pot n M X i := by
  unfold Mi.healS
  split
  · exact Nat.le_refl _
  · exact h.repair_pot hsp hs hi hx
theorem Gm.checkC_pot (h : Gm B z n c M) (hsp : Spare B M.P) {q : PtrE} {i : Nat} {X : ByteArray} (hx : X.size = z) (hC : Cop M q X i) (hi : i < B) : pot n (M.check q i).2 X i ≤ pot n M X i := by
  obtain ⟨s, hs, hw, _, _⟩ := hC.whole
  unfold Mi.check
  rw [hw]
  simp only [ne_eq, not_true_eq_false, if_false]
  unfold Mi.heal
  simp only
  obtain ⟨k0, M1, e0, _, g0, b0, _⟩ := h.healS (s := 0) (by decide) hi hx
  have p0 := h.healS_pot hsp (s := 0) (by decide) hi hx
  rw [e0] at p0 ⊢
  simp only at p0 ⊢
  exact Nat.le_trans (g0.healS_pot (hsp.alike b0.alike) (s := 1) (by decide) hi hx) p0
theorem Gm.readC_pot (h : Gm B z n c M) (hsp : Spare B M.P) {q : PtrE} {i : Nat} {X : ByteArray} (hx : X.size = z) (hC : Cop M q X i) (hi : i < B) : pot n (M.readM q i) X i ≤ pot n M X i := by
  obtain ⟨s, hs, hw, _, _⟩ := hC.whole
  unfold Mi.readM
  rw [hw]
  simp only
  split
  · exact h.repair_pot hsp (by decide) hi hx
  · exact Nat.le_refl _
theorem wt_le_pot (n : Nat) (M : Mi) (X : ByteArray) (i : Nat) : M.wt ≤ pot n M X i := Nat.le_add_right _ _
theorem Cop.pot_le {q : PtrE} {X : ByteArray} {i : Nat} (h : Cop M q X i) (n : Nat) : pot n M X i ≤ M.wt + 1 := by
  obtain ⟨s, hs, hr⟩ := h.one
  have hd : DoneW n M X i s := .inl hr
  unfold pot
  rcases two_cases hs with rfl | rfl
  · rw [if_pos hd]; split <;> omega
  · rw [if_pos hd]; split <;> omega
/-! images that no other is taken for -/
theorem unlike_gen {q : PtrE} {Y t : ByteArray} {q' : PtrE} {a g : Nat} (hI : ImgOf Y q' z a g t) (hne : q.gen ≠ g) : meetsL q Y.toList = false := by
  unfold meetsL
  rw [hI.opens]
  simp only
  rw [decide_eq_false (p := g = q.gen) (fun e => hne e.symm)]
  simp
theorem unlike_addr {q : PtrE} {Y t : ByteArray} {q' : PtrE} {a g : Nat} (hI : ImgOf Y q' z a g t) (hne : q.addr ≠ (a : Int)) : meetsL q Y.toList = false := by
  unfold meetsL
  rw [hI.opens]
  simp only
  rw [decide_eq_false (p := (a : Int) = q.addr) (fun e => hne e.symm)]
  simp
/-- Noughts. -/
def nought (z : Nat) : ByteArray := ⟨Array.replicate z 0⟩
theorem nought_open : (match openL (nought 128).toList with | none => true | some (h, _) => h.gen == 0) = true := by decide +kernel
theorem unlike_nought {q : PtrE} (hne : q.gen ≠ 0) : meetsL q (nought 128).toList = false := by
  have h := nought_open
  unfold meetsL
  revert h
  cases openL (nought 128).toList with
  | none => intro _; rfl
  | some y =>
    obtain ⟨e, p⟩ := y
    intro h
    simp only at h ⊢
    have h0 : e.gen = 0 := by simpa using h
    rw [decide_eq_false (p := e.gen = q.gen) (fun e2 => hne (by rw [← e2, h0]))]
    simp
theorem Cop.of {M' : Mi} {q : PtrE} {X : ByteArray} {i : Nat} (h : Cop M q X i) (hr : ∀ s, s < 2 → M'.P.read s (i : Int) = M.P.read s (i : Int)) : Cop M' q X i := by
  refine ⟨fun s hs hh => (hr s hs).trans (h.only s hs ?_), ?_, h.meets⟩
  · unfold Mi.has at hh ⊢
    rw [hr s hs] at hh
    exact hh
  · obtain ⟨s, hs, e⟩ := h.one
    exact ⟨s, hs, (hr s hs).trans e⟩
end
/-- The state behind some harms: which blocks were harmed. -/
structure Hm (M : Mi) (nw : Nat → ByteArray) (pt : Nat → PtrE) (H : Nat → Bool) (c : Nat) : Prop where
  gm : Gm 14 128 6 c M
  still : Still 14 6 M.P
  spare : Spare 14 M.P
  reps : M.reps = 0
  bl : M.bl = []
  cop : ∀ j, j < 14 → Cop M (pt j) (nw j) j
  ok : ∀ j, j < 14 → H j = false → ∀ s, s < 2 → M.P.read s (j : Int) = (nw j, 0)
def setH (H : Nat → Bool) (b : Nat) : Nat → Bool := fun j => if j = b then true else H j
section
variable {M : Mi} {nw : Nat → ByteArray} {pt : Nat → PtrE} {H : Nat → Bool} {c : Nat}
theorem Hm.turn (h : Hm M nw pt H c) {s b : Nat} (hs : s < 2) (hb : b < 14) (hH : H b = false) {M' : Mi} {c' : Nat} (g : Gm 14 128 6 c' M') (t : Still 14 6 M'.P) (sp : Spare 14 M'.P) (hr : M'.reps = 0) (hl : M'.bl = [])
    (ho : ∀ d j, d < 2 → j < 14 → (d ≠ s ∨ j ≠ b) → M'.P.read d (j : Int) = M.P.read d (j : Int)) (hy : (M'.P.read s (b : Int)).2 = 7 ∨ ∃ Y, M'.P.read s (b : Int) = (Y, 0) ∧ (meetsL (pt b) Y.toList = true → Y = nw b)) : Hm M' nw pt (setH H b) c' := by
  refine ⟨g, t, sp, hr, hl, fun j hj => ?_, fun j hj hf d hd => ?_⟩
  · by_cases e : j = b
    · subst e
      have hok := h.ok j hj hH
      refine ⟨fun k hk hh => ?_, ⟨1 - s, by omega, (ho (1 - s) j (by omega) hj (.inl (by omega))).trans (hok _ (by omega))⟩, (h.cop j hj).meets⟩
      by_cases ek : k = s
      · subst ek
        rcases hy with h7 | ⟨Y, hr, hm⟩
        · have := (Mi.has_ok hh).1
          rw [h7] at this; cases this
        · rw [Mi.has_iff hr] at hh
          rw [hr, hm hh]
      · exact (ho k j hk hj (.inl ek)).trans (hok k hk)
    · exact (h.cop j hj).of (fun d hd => ho d j hd hj (.inr e))
  · unfold setH at hf
    split at hf
    · cases hf
    · rename_i e
      exact (ho d j hd hj (.inr e)).trans (h.ok j hj hf d hd)
theorem Hm.sound_at (h : Hm M nw pt H c) {s b : Nat} (hs : s < 2) (hb : b < 14) (hH : H b = false) : (M.P.dev s).bad.getD (b + 4) false = false := by
  cases hx : (M.P.dev s).bad.getD (b + 4) false with
  | false => rfl
  | true =>
    have := read_bad h.gm.pi hs (i := b) (by rw [h.gm.blocks s hs]; exact hb) (by rw [h.still.at_ hs hb]; exact hx)
    rw [h.ok b hb hH s hs] at this
    injection this with _ e
    cases e
theorem Hm.garble (h : Hm M nw pt H c) {s b : Nat} (hs : s < 2) (hb : b < 14) (hH : H b = false) (a : Nat) (y : UInt8) : Hm { M with P := M.P.setDev s ((M.P.dev s).garble (b + 4) a y) } nw pt (setH H b) c := by
  obtain ⟨g1, t1, _, o1, r1⟩ := h.gm.garble h.still hs hb a y
  refine h.turn hs hb hH g1 t1 (fun d hd j hj => ?_) h.reps h.bl o1 (.inr ⟨_, r1 _ (h.ok b hb hH s hs), fun hm => turnB_meets (h.cop b hb).meets hm⟩)
  show (if d = s then (M.P.dev s).garble (b + 4) a y else M.P.dev d).bad.getD j false = false
  split
  · exact h.spare s hs j hj
  · exact h.spare d hd j hj
theorem Hm.stick (h : Hm M nw pt H c) {s b : Nat} (hs : s < 2) (hb : b < 14) (hH : H b = false) : Hm { M with P := M.P.setDev s ((M.P.dev s).stick ((b + 4 : Nat) : Int)) } nw pt (setH H b) c := by
  obtain ⟨g1, t1, o1, b1, r1⟩ := h.gm.stick h.still hs hb
  exact h.turn hs hb hH g1 t1 (fun d hd j hj => (b1 d hd j (.inr (by omega))).trans (h.spare d hd j hj)) h.reps h.bl o1 (.inl r1)
theorem Hm.dwrite (h : Hm M nw pt H c) {s b : Nat} (hs : s < 2) (hb : b < 14) (hH : H b = false) {Y : ByteArray} (hY : Y.size = 128) (hm : meetsL (pt b) Y.toList = true → Y = nw b) : ∃ D', (M.P.dev s).write ((b + 4 : Nat) : Int) Y = (0, D') ∧ Hm { M with P := M.P.setDev s D' } nw pt (setH H b) (c + 1) := by
  obtain ⟨D', e1, g1, t1, _, o1, r1⟩ := h.gm.dwrite h.still (h.sound_at hs hb hH) hs hb hY
  obtain ⟨_, _, hbad, _, _⟩ := (h.gm.fine.on s hs).write ((b + 4 : Nat) : Int) Y
  rw [e1] at hbad
  simp only at hbad
  refine ⟨D', e1, h.turn hs hb hH g1 t1 (fun d hd j hj => ?_) h.reps h.bl o1 (.inr ⟨Y, r1, hm⟩)⟩
  show (if d = s then D' else M.P.dev d).bad.getD j false = false
  split
  · rw [hbad]; exact h.spare s hs j hj
  · exact h.spare d hd j hj
end
/-- The state while the blocks are read and checked, one by one. -/
structure Ck (M : Mi) (nw : Nat → ByteArray) (pt : Nat → PtrE) (H : Nat → Bool) (b : Nat) : Prop where
  gm : Gm 14 128 6 (100 + 5 * b) M
  spare : Spare 14 M.P
  reps : M.reps ≤ 3 * b
  wt : M.wt ≤ b
  cop : ∀ j, j < 14 → Cop M (pt j) (nw j) j
  ok : ∀ j, b ≤ j → j < 14 → H j = false → ∀ s, s < 2 → M.P.read s (j : Int) = (nw j, 0)
theorem Hm.ck {M : Mi} {nw : Nat → ByteArray} {pt : Nat → PtrE} {H : Nat → Bool} {c : Nat} (h : Hm M nw pt H c) (hc : c ≤ 100) : Ck M nw pt H 0 :=
  ⟨h.gm.mono (by omega), h.spare, by rw [h.reps]; omega, by unfold Mi.wt; rw [h.bl, h.still 0 (by decide), h.still 1 (by decide)]; simp, h.cop, fun j _ => h.ok j⟩
/-- A block's Read and its two Checks. -/
theorem Ck.step {M : Mi} {nw : Nat → ByteArray} {pt : Nat → PtrE} {H : Nat → Bool} {b g : Nat} {t : ByteArray} (h : Ck M nw pt H b) (hb : b < 14) (hI : ImgOf (nw b) (pt b) 128 b g t) :
    ∃ k M1 M2 M3, M.readV (pt b) b = (4, t, 0) ∧ M.readM (pt b) b = M1 ∧ Gm 14 128 6 (101 + 5 * b) M1 ∧ M1.reps ≤ 3 * b + 1 ∧ M1.check (pt b) b = ((k, 0), M2) ∧ k ≤ 1 ∧ (H b = false → k = 0) ∧ Gm 14 128 6 (103 + 5 * b) M2 ∧ M2.reps ≤ 3 * b + 2 ∧ M2.check (pt b) b = ((0, 0), M3) ∧ Ck M3 nw pt H (b + 1) := by
  have hC := h.cop b hb
  obtain ⟨v1, g1, b1, C1, r1, s1⟩ := h.gm.readC hI hC hb
  have p1 := h.gm.readC_pot h.spare hI.size hC hb
  obtain ⟨M1, e1⟩ : ∃ M1, M.readM (pt b) b = M1 := ⟨_, rfl⟩
  rw [e1] at g1 b1 C1 r1 s1 p1
  have sp1 := h.spare.alike b1.alike
  obtain ⟨k2, M2, e2, l2, g2, b2, d2, C2, r2, w2, _⟩ := g1.checkC hI.size C1 hb
  have p2 := g1.checkC_pot sp1 hI.size C1 hb
  rw [e2] at p2
  simp only at p2
  have sp2 := sp1.alike b2.alike
  obtain ⟨k3, M3, e3, _, g3, b3, _, C3, r3, _, w3⟩ := g2.checkC hI.size C2 hb
  have p3 := g2.checkC_pot sp2 hI.size C2 hb
  rw [e3] at p3
  simp only at p3
  obtain ⟨k30, _⟩ := w3 d2
  subst k30
  have hbut := (b1.trans b2).trans b3
  have hp := hC.pot_le 6
  have hw3 := wt_le_pot 6 M3 (nw b) b
  have hr0 := h.reps
  have hw0 := h.wt
  have hmono : 101 + 5 * b = 100 + 5 * b + 1 := by omega
  refine ⟨k2, M1, M2, M3, v1, e1, g1.mono (by omega), by omega, e2, l2, fun hf => ?_, g2.mono (by omega), by omega, e3, ⟨g3.mono (by omega), sp2.alike b3.alike, by omega, by omega, fun j hj => ?_, fun j hj hj2 hf s hs => ?_⟩⟩
  · have hall := h.ok b (Nat.le_refl _) hb hf
    have hM1 := s1 hall
    exact (w2 (by rw [hM1]; exact hall)).1
  · by_cases e : j = b
    · subst e; exact C3
    · exact (h.cop j hj).of (fun s hs => hbut.reads s j hs hj e)
  · exact (hbut.reads s j hs hj2 (by omega)).trans (h.ok j (by omega) hj2 hf s hs)
/-- How many places are bad in the end. -/
theorem Ck.few {M : Mi} {nw : Nat → ByteArray} {pt : Nat → PtrE} {H : Nat → Bool} (h : Ck M nw pt H 14) : M.bl = [] ∨ M.bl.length ≤ 8 ∧ ((M.P.tab 0).moved.length = 6 ∨ (M.P.tab 1).moved.length = 6) := by
  by_cases hb : M.bl = []
  · exact .inl hb
  · obtain ⟨s, hs, hm⟩ := h.gm.bad hb
    have := h.wt
    unfold Mi.wt at this
    rcases two_cases hs with rfl | rfl
    · exact .inr ⟨by omega, .inl hm⟩
    · exact .inr ⟨by omega, .inr hm⟩
end Go.Proofs.YtnpfhfgegjocoaaGreat
/- MirrorReads's state: three arrays of the law's own beside the mirror; writes and the flush. -/
namespace Go.Proofs.YtnpfhfgegjocoaaGreat
open Go.RowKit

def updF {α : Type} (f : Nat → α) (b : Nat) (v : α) : Nat → α := fun j => if j = b then v else f j
theorem range_set {α : Type} (f : Nat → α) (n i : Nat) (v : α) : ((List.range n).map f).set i v = (List.range n).map (updF f i v) := by
  apply List.ext_getElem?
  intro j
  rw [List.getElem?_set, List.getElem?_map, List.getElem?_map]
  by_cases hj : j < n
  · rw [List.getElem?_range hj]
    simp only [Option.map_some, List.length_map, List.length_range]
    unfold updF
    by_cases e : i = j
    · subst e; rw [if_pos rfl, if_pos hj, if_pos rfl]
    · rw [if_neg e, if_neg (fun e2 => e e2.symm)]
  · have h1 : (List.range n)[j]? = none := List.getElem?_eq_none (by rw [List.length_range]; omega)
    rw [h1]
    simp only [Option.map_none, List.length_map, List.length_range]
    split
    · rename_i e
      subst e
      rw [if_neg hj]
    · rfl
theorem range_at {α : Type} (f : Nat → α) {n i : Nat} (hi : i < n) : ((List.range n).map f)[i]? = some (f i) := by
  rw [List.getElem?_map, List.getElem?_range hi]; rfl
def strs14 (f : Nat → ByteArray) : List Value := (List.range 14).map fun j => Value.string (f j)
/-- A cell of what is known of a block. -/
def pcell (q : PtrE) (k : Nat) : Value := if k = 0 then .int .i64 q.addr else if k = 1 then .int .u64 (q.gen : Nat) else .int .u32 (q.sum : Nat)
def ptrs14 (f : Nat → PtrE) : List Value := (List.range 42).map fun i => pcell (f (i / 3)) (i % 3)
theorem strs14_set (f : Nat → ByteArray) (b : Nat) (X : ByteArray) : (strs14 f).set b (.string X) = strs14 (updF f b X) := by
  unfold strs14
  rw [range_set]
  apply List.map_congr_left
  intro j _
  unfold updF
  by_cases e : j = b
  · rw [if_pos e, if_pos e]
  · rw [if_neg e, if_neg e]
theorem ptrs14_set (f : Nat → PtrE) (b : Nat) (q : PtrE) : (((ptrs14 f).set (b * 3) (.int .i64 q.addr)).set (b * 3 + 1) (.int .u64 (q.gen : Nat))).set (b * 3 + 2) (.int .u32 (q.sum : Nat)) = ptrs14 (updF f b q) := by
  unfold ptrs14
  rw [range_set, range_set, range_set]
  apply List.map_congr_left
  intro j _
  unfold updF
  by_cases e0 : j = b * 3 + 2
  · subst e0
    rw [if_pos rfl, if_pos (by omega)]
    unfold pcell
    rw [if_neg (by omega), if_neg (by omega)]
  · rw [if_neg e0]
    by_cases e1 : j = b * 3 + 1
    · subst e1
      rw [if_pos rfl, if_pos (by omega)]
      unfold pcell
      rw [if_neg (by omega), if_pos (by omega)]
    · rw [if_neg e1]
      by_cases e2 : j = b * 3
      · subst e2
        rw [if_pos rfl, if_pos (by omega)]
        unfold pcell
        rw [if_pos (by omega)]
      · rw [if_neg e2, if_neg (by omega)]
/-- The law's memory. -/
structure RdIn (W w : World) (F : List Nat) (x : Nat → Nat) (b p db tk pb nb ob : Nat) (M : Mi) (nw od : Nat → ByteArray) (pt : Nat → PtrE) : Prop where
  own : OwnM W F w b p x M
  sum : Blk w tk 172 sumRow
  dv : Blk w db 50 [.pointer (some ⟨x 0, 0, none⟩), .pointer (some ⟨x 1, 0, none⟩)]
  ptr : Blk w pb 93 (ptrs14 pt)
  nws : Blk w nb 94 (strs14 nw)
  ods : Blk w ob 94 (strs14 od)
  mem : ∀ g, g ∈ [tk, db, pb, nb, ob] → g ∈ F
  old : W.heap.size ≤ pb ∧ W.heap.size ≤ nb ∧ W.heap.size ≤ ob
  nd : [tk, db, pb, nb, ob].Nodup
section
variable {W w w' : World} {F G : List Nat} {x : Nat → Nat} {b p db tk pb nb ob : Nat} {M M' : Mi} {nw od : Nat → ByteArray} {pt : Nat → PtrE}
theorem RdIn.go (h : RdIn W w F x b p db tk pb nb ob M nw od pt) (ho : OwnM W F w' b p x M') (hm : Minds F w w') : RdIn W w' F x b p db tk pb nb ob M' nw od pt :=
  ⟨ho, hm.blk h.sum (h.mem _ (by simp)), hm.blk h.dv (h.mem _ (by simp)), hm.blk h.ptr (h.mem _ (by simp)), hm.blk h.nws (h.mem _ (by simp)), hm.blk h.ods (h.mem _ (by simp)), h.mem, h.old, h.nd⟩
theorem RdIn.calm (h : RdIn W w F x b p db tk pb nb ob M nw od pt) (hm : Mods [] w w') : RdIn W w' F x b p db tk pb nb ob M nw od pt := h.go (h.own.still hm) (Minds.of hm)
theorem RdIn.ne (h : RdIn W w F x b p db tk pb nb ob M nw od pt) : (tk ≠ pb ∧ tk ≠ nb ∧ tk ≠ ob) ∧ (db ≠ pb ∧ db ≠ nb ∧ db ≠ ob) ∧ pb ≠ nb ∧ pb ≠ ob ∧ nb ≠ ob := by
  have := h.nd
  simp only [List.nodup_cons, List.mem_cons, List.not_mem_nil, or_false, not_or] at this
  obtain ⟨⟨_, h1, h2, h3⟩, ⟨h4, h5, h6⟩, ⟨h7, h8⟩, h9, _⟩ := this
  exact ⟨⟨h1, h2, h3⟩, ⟨h4, h5, h6⟩, h7, h8, h9⟩
theorem RdIn.setNow (h : RdIn W w F x b p db tk pb nb ob M nw od pt) (i : Nat) (X : ByteArray) : RdIn W (w.setCell ⟨nb, i, none⟩ (.string X)) F x b p db tk pb nb ob M (updF nw i X) od pt := by
  have hm : Mods [nb] w (w.setCell ⟨nb, i, none⟩ (.string X)) := (Mods.refl _ _).setCell (by simp) _
  obtain ⟨⟨_, n1, _⟩, ⟨_, n2, _⟩, n3, _, n4⟩ := h.ne
  refine ⟨h.own.aside hm (fun k hk => by rw [List.mem_singleton.1 hk]; exact ⟨h.mem _ (by simp), h.old.2.1⟩), h.sum.keep hm (by simpa using n1), h.dv.keep hm (by simpa using n2), h.ptr.keep hm (by simpa using n3), ?_, h.ods.keep hm (by simpa using n4.symm), h.mem, h.old, h.nd⟩
  rw [← strs14_set]
  exact h.nws.set i _
theorem RdIn.setOld (h : RdIn W w F x b p db tk pb nb ob M nw od pt) (i : Nat) (X : ByteArray) : RdIn W (w.setCell ⟨ob, i, none⟩ (.string X)) F x b p db tk pb nb ob M nw (updF od i X) pt := by
  have hm : Mods [ob] w (w.setCell ⟨ob, i, none⟩ (.string X)) := (Mods.refl _ _).setCell (by simp) _
  obtain ⟨⟨_, _, n1⟩, ⟨_, _, n2⟩, _, n3, n4⟩ := h.ne
  refine ⟨h.own.aside hm (fun k hk => by rw [List.mem_singleton.1 hk]; exact ⟨h.mem _ (by simp), h.old.2.2⟩), h.sum.keep hm (by simpa using n1), h.dv.keep hm (by simpa using n2), h.ptr.keep hm (by simpa using n3), h.nws.keep hm (by simpa using n4), ?_, h.mem, h.old, h.nd⟩
  rw [← strs14_set]
  exact h.ods.set i _
theorem RdIn.setPtr (h : RdIn W w F x b p db tk pb nb ob M nw od pt) (i : Nat) (q : PtrE) : RdIn W (((w.setCell ⟨pb, i * 3, none⟩ (.int .i64 q.addr)).setCell ⟨pb, i * 3 + 1, none⟩ (.int .u64 (q.gen : Nat))).setCell ⟨pb, i * 3 + 2, none⟩ (.int .u32 (q.sum : Nat))) F x b p db tk pb nb ob M nw od (updF pt i q) := by
  have hm : Mods [pb] w (((w.setCell ⟨pb, i * 3, none⟩ (.int .i64 q.addr)).setCell ⟨pb, i * 3 + 1, none⟩ (.int .u64 (q.gen : Nat))).setCell ⟨pb, i * 3 + 2, none⟩ (.int .u32 (q.sum : Nat))) := (((Mods.refl _ _).setCell (by simp) _).setCell (by simp) _).setCell (by simp) _
  obtain ⟨⟨n1, _, _⟩, ⟨n2, _, _⟩, n3, n4, _⟩ := h.ne
  refine ⟨h.own.aside hm (fun k hk => by rw [List.mem_singleton.1 hk]; exact ⟨h.mem _ (by simp), h.old.1⟩), h.sum.keep hm (by simpa using n1), h.dv.keep hm (by simpa using n2), ?_, h.nws.keep hm (by simpa using n3.symm), h.ods.keep hm (by simpa using n4.symm), h.mem, h.old, h.nd⟩
  rw [← ptrs14_set]
  exact ((h.ptr.set _ _).set _ _).set _ _
theorem RdIn.now_at (h : RdIn W w F x b p db tk pb nb ob M nw od pt) {i : Nat} (hi : i < 14) : w.cell? ⟨nb, i, none⟩ = some (.string (nw i)) := h.nws.cell (i := i) (range_at _ hi)
theorem RdIn.old_at (h : RdIn W w F x b p db tk pb nb ob M nw od pt) {i : Nat} (hi : i < 14) : w.cell? ⟨ob, i, none⟩ = some (.string (od i)) := h.ods.cell (i := i) (range_at _ hi)
theorem RdIn.ptr_at (h : RdIn W w F x b p db tk pb nb ob M nw od pt) {i : Nat} (hi : i < 14) : w.cell? ⟨pb, i * 3, none⟩ = some (.int .i64 (pt i).addr) ∧ w.cell? ⟨pb, i * 3 + 1, none⟩ = some (.int .u64 ((pt i).gen : Nat)) ∧ w.cell? ⟨pb, i * 3 + 2, none⟩ = some (.int .u32 ((pt i).sum : Nat)) := by
  refine ⟨h.ptr.cell (i := i * 3) ?_, h.ptr.cell (i := i * 3 + 1) ?_, h.ptr.cell (i := i * 3 + 2) ?_⟩
  · unfold ptrs14
    rw [range_at _ (by omega), show i * 3 / 3 = i by omega, show i * 3 % 3 = 0 by omega]; rfl
  · unfold ptrs14
    rw [range_at _ (by omega), show (i * 3 + 1) / 3 = i by omega, show (i * 3 + 1) % 3 = 1 by omega]; rfl
  · unfold ptrs14
    rw [range_at _ (by omega), show (i * 3 + 2) / 3 = i by omega, show (i * 3 + 2) % 3 = 2 by omega]; rfl
/-- Of which lap a block's image is. -/
def genW (n k j : Nat) : Nat := if j < k then n + 1 else n
/-- While the blocks are written, twice. -/
structure Wr (M : Mi) (nw od : Nat → ByteArray) (pt : Nat → PtrE) (tx : Nat → ByteArray) (n k c : Nat) : Prop where
  gm : Gm 14 128 6 c M
  sound : Sound M.P
  still : Still 14 6 M.P
  reps : M.reps = 0
  bl : M.bl = []
  kn : ∀ j, j < 14 → 1 ≤ genW n k j → ImgOf (nw j) (pt j) 128 j (genW n k j) (tx j) ∧ ∀ s, s < 2 → M.P.read s (j : Int) = (nw j, 0)
  od : ∀ j, j < 14 → genW n k j = 2 → ∃ q, ImgOf (od j) q 128 j 1 (tx j)
variable {tx : Nat → ByteArray} {n k c : Nat} {H : Nat → Bool}
theorem Wr.lap (h : Wr M nw od pt tx n 14 c) : Wr M nw od pt tx (n + 1) 0 c := by
  have e : ∀ j, j < 14 → genW (n + 1) 0 j = genW n 14 j := fun j hj => by unfold genW; rw [if_neg (by omega), if_pos hj]
  exact ⟨h.gm, h.sound, h.still, h.reps, h.bl, fun j hj => by rw [e j hj]; exact h.kn j hj, fun j hj => by rw [e j hj]; exact h.od j hj⟩
theorem Wr.write (h : Wr M nw od pt tx n k c) (_hn : n < 2) (hk : k < 14) {q : PtrE} {X : ByteArray} (hI : ImgOf X q 128 k (n + 1) (tx k)) :
    ∃ M', M.write k X = (0, M') ∧ Wr M' (updF nw k X) (updF od k (nw k)) (updF pt k q) tx n (k + 1) (c + 2) := by
  obtain ⟨M', e1, g1, n1, r1, t1, x1, o1, b1⟩ := h.gm.write_ok h.sound hk hI.size
  have hgk : genW n (k + 1) k = n + 1 := by unfold genW; rw [if_pos (by omega)]
  have hgo : ∀ j, j ≠ k → genW n (k + 1) j = genW n k j := fun j hj => by
    unfold genW
    by_cases e : j < k
    · rw [if_pos e, if_pos (by omega)]
    · rw [if_neg e, if_neg (by omega)]
  refine ⟨M', e1, ⟨g1, n1, fun s hs => by rw [t1]; exact h.still s hs, r1.trans h.reps, b1 h.bl, fun j hj hg => ?_, fun j hj hg => ?_⟩⟩
  · unfold updF
    by_cases e : j = k
    · subst e
      rw [if_pos rfl, if_pos rfl, hgk]
      exact ⟨hI, x1⟩
    · rw [if_neg e, if_neg e]
      rw [hgo j e] at hg ⊢
      obtain ⟨k1, k2⟩ := h.kn j hj hg
      exact ⟨k1, fun d hd => (o1 d j hd hj e).trans (k2 d hd)⟩
  · unfold updF
    by_cases e : j = k
    · subst e
      rw [if_pos rfl]
      rw [hgk] at hg
      have hn1 : n = 1 := by omega
      have hg1 : genW n j j = 1 := by unfold genW; rw [if_neg (by omega)]; exact hn1
      have := (h.kn j hj (by omega)).1
      rw [hg1] at this
      exact ⟨_, this⟩
    · rw [if_neg e]
      rw [hgo j e] at hg
      exact h.od j hj hg
theorem Wr.flush (h : Wr M nw od pt tx n k c) : ∃ M', M.flush = (0, M') ∧ Wr M' nw od pt tx n k c := by
  obtain ⟨M2, e2, g2, a2, r2, b2, t2, o2, _⟩ := h.gm.flush
  refine ⟨M2, e2, ⟨g2, h.sound.alike a2, fun s hs => by rw [t2]; exact h.still s hs, r2.trans h.reps, b2.trans h.bl, fun j hj hg => ?_, h.od⟩⟩
  obtain ⟨k1, k2⟩ := h.kn j hj hg
  exact ⟨k1, fun d hd => (o2 d j hd hj).trans (k2 d hd)⟩
theorem Wr.hm (h : Wr M nw od pt tx 2 0 c) : Hm M nw pt (fun _ => false) c := by
  have e : ∀ j, genW 2 0 j = 2 := fun j => by unfold genW; rw [if_neg (by omega)]
  refine ⟨h.gm, h.still, fun d hd j hj => h.sound d hd j (by omega), h.reps, h.bl, fun j hj => ?_, fun j hj _ => (h.kn j hj (by rw [e]; omega)).2⟩
  obtain ⟨k1, k2⟩ := h.kn j hj (by rw [e]; omega)
  exact ⟨fun s hs _ => k2 s hs, ⟨0, by decide, k2 0 (by decide)⟩, k1.meets⟩
/-- What the images are, behind both laps. -/
structure Imgs (nw od : Nat → ByteArray) (pt : Nat → PtrE) (tx : Nat → ByteArray) : Prop where
  nw : ∀ j, j < 14 → ImgOf (nw j) (pt j) 128 j 2 (tx j)
  od : ∀ j, j < 14 → ∃ q, ImgOf (od j) q 128 j 1 (tx j)
theorem Wr.imgs (h : Wr M nw od pt tx 2 0 c) : Imgs nw od pt tx := by
  have e : ∀ j, genW 2 0 j = 2 := fun j => by unfold genW; rw [if_neg (by omega)]
  refine ⟨fun j hj => ?_, fun j hj => h.od j hj (e j)⟩
  have := (h.kn j hj (by rw [e]; omega)).1
  rw [e] at this
  exact this
theorem rdWrite {X : ByteArray} {q : PtrE} (h : RdIn W w F x b p db tk pb nb ob M (updF nw k X) (updF od k (nw k)) (updF pt k q)) (hW : Wr M nw od pt tx n k c) (hc : c ≤ 1000) (hn : n < 2) (hk : k < 14) (hI : ImgOf X q 128 k (n + 1) (tx k)) :
    Calls Tryz.prog 29 #[.pointer (some ⟨b, 0, none⟩), .int .i64 (k : Nat), .string X] w fun e w' => ∃ M', e = .returned (.int .i64 0) ∧ Hid (RdIn W w' F x b p db tk pb nb ob M' (updF nw k X) (updF od k (nw k)) (updF pt k q)) ∧ Hid (Wr M' (updF nw k X) (updF od k (nw k)) (updF pt k q) tx n (k + 1) (c + 2)) := by
  obtain ⟨M', e1, q1⟩ := hW.write hn hk hI
  refine (oWrite h.own hW.gm.fine (by omega) hk hI.size).mono fun e w' ⟨h1, h2, h3⟩ => ⟨M', ?_, ?_, Lib.hid q1⟩
  · rw [h1, e1]; rfl
  · rw [e1] at h2
    exact Lib.hid (h.go h2.out h3.out)
theorem rdFlush (h : RdIn W w F x b p db tk pb nb ob M nw od pt) (hW : Wr M nw od pt tx n k c) (hc : c ≤ 1000) :
    Calls Tryz.prog 30 #[.pointer (some ⟨b, 0, none⟩)] w fun e w' => ∃ M', e = .returned (.int .i64 0) ∧ Hid (RdIn W w' F x b p db tk pb nb ob M' nw od pt) ∧ Hid (Wr M' nw od pt tx n k c) := by
  obtain ⟨M', e1, q1⟩ := hW.flush
  refine (oFlush h.own hW.gm.fine (by omega)).mono fun e w' ⟨h1, h2, h3⟩ => ⟨M', ?_, ?_, Lib.hid q1⟩
  · rw [h1, e1]; rfl
  · rw [e1] at h2
    exact Lib.hid (h.go h2.out h3.out)
/-- A new block is minded, too. -/
theorem RdIn.protect {g : Nat} (h : RdIn W w F x b p db tk pb nb ob M nw od pt) (hm : Mods [] w w') (hg : w.heap.size ≤ g) (hg' : g < w'.heap.size) : RdIn W w' (g :: F) x b p db tk pb nb ob M nw od pt := by
  have hs := h.calm hm
  exact ⟨h.own.protect hm (fun k hk => by
    rcases List.mem_cons.1 hk with rfl | hk
    · exact .inr ⟨hg, hg'⟩
    · exact .inl hk), hs.sum, hs.dv, hs.ptr, hs.nws, hs.ods, fun g hg => List.mem_cons_of_mem _ (h.mem g hg), h.old, h.nd⟩
theorem RdIn.less {g : Nat} (h : RdIn W w (g :: F) x b p db tk pb nb ob M nw od pt) (hF : ∀ g, g ∈ [tk, db, pb, nb, ob] → g ∈ F) : RdIn W w F x b p db tk pb nb ob M nw od pt :=
  ⟨h.own.fewer (fun _k hk => List.mem_cons_of_mem _ hk), h.sum, h.dv, h.ptr, h.nws, h.ods, hF, h.old, h.nd⟩
end
end Go.Proofs.YtnpfhfgegjocoaaGreat
/- MirrorReads's state with its map of harmed blocks; harms; a block's Read and its two Checks. -/
namespace Go.Proofs.YtnpfhfgegjocoaaGreat
open Go.RowKit

def hkF (H : Nat → Bool) : Nat → Option Value := fun a => if H a = true then some (.bool true) else none
theorem hkF_set (H : Nat → Bool) (i : Nat) : putF (hkF H) i (.bool true) = hkF (setH H i) := by
  funext a
  unfold putF hkF setH
  by_cases e : a = i
  · rw [if_pos e, if_pos e, if_pos rfl]
  · rw [if_neg e, if_neg e]
theorem zero_boolR (w : World) : (zeroValue 4).run Tryz.prog w = .ok (.bool false) w := by kernel_rfl
/-- The law's memory, with the map. -/
structure RhIn (W w : World) (F : List Nat) (x : Nat → Nat) (b p db tk pb nb ob hb : Nat) (M : Mi) (nw od : Nat → ByteArray) (pt : Nat → PtrE) (H : Nat → Bool) : Prop where
  lo : RdIn W w F x b p db tk pb nb ob M nw od pt
  map : ∃ n, MapK kvI w hb (hkF H) n
  hm : hb ∈ F
  old : W.heap.size ≤ hb
  ne : hb ∉ [tk, db, pb, nb, ob]
section
variable {W w w' : World} {F : List Nat} {x : Nat → Nat} {b p db tk pb nb ob hb : Nat} {M M' : Mi} {nw od : Nat → ByteArray} {pt : Nat → PtrE} {H : Nat → Bool} {tx : Nat → ByteArray} {k c : Nat}
theorem RhIn.go (h : RhIn W w F x b p db tk pb nb ob hb M nw od pt H) (ho : OwnM W F w' b p x M') (hm : Minds F w w') : RhIn W w' F x b p db tk pb nb ob hb M' nw od pt H :=
  ⟨h.lo.go ho hm, h.map.elim fun n hn => ⟨n, hm.map hn h.hm⟩, h.hm, h.old, h.ne⟩
theorem RhIn.calm (h : RhIn W w F x b p db tk pb nb ob hb M nw od pt H) (hm : Mods [] w w') : RhIn W w' F x b p db tk pb nb ob hb M nw od pt H := h.go (h.lo.own.still hm) (Minds.of hm)
theorem rhLook (h : RhIn W w F x b p db tk pb nb ob hb M nw od pt H) (i : Nat) : (Instr.lookup 28 (.map (some hb)) (.int .i64 (i : Nat)) false).run Tryz.prog w = .ok (.bool (H i)) w := by
  obtain ⟨n, hn⟩ := h.map
  have := hn.lookup (P := Tryz.prog) (T := 28) (K := 3) (E := 4) (d := .int .i64) kvI_key Tryz.underlying28 Tryz.underlying3 (zero_boolR w) i false
  unfold hkF at this
  cases hH : H i with
  | true => rw [hH] at this; exact this
  | false => rw [hH] at this; exact this
theorem rhStore (h : RhIn W w F x b p db tk pb nb ob hb M nw od pt H) (i : Nat) :
    ∃ w1, (Instr.mapUpdate 28 (.map (some hb)) (.int .i64 (i : Nat)) (.bool true)).run Tryz.prog w = .ok () w1 ∧ Hid (RhIn W w1 F x b p db tk pb nb ob hb M nw od pt (setH H i)) ∧ Hid (Mods [hb] w w1) := by
  obtain ⟨n, hn⟩ := h.map
  obtain ⟨w1, h1, h2, h3, _⟩ := hn.update (P := Tryz.prog) (T := 28) (K := 3) (E := 4) (d := .int .i64) kvI_key kvI_inj Tryz.underlying28 Tryz.underlying3 i (.bool true)
  rw [hkF_set] at h2
  have hne := h.ne
  simp only [List.mem_cons, List.not_mem_nil, or_false, not_or] at hne
  obtain ⟨e1, e2, e3, e4, e5⟩ := hne
  have hl := h.lo
  refine ⟨w1, h1, Lib.hid ⟨⟨hl.own.aside h3 (fun g hg => by rw [List.mem_singleton.1 hg]; exact ⟨h.hm, h.old⟩), hl.sum.keep h3 (by simpa using fun e => e1 e.symm), hl.dv.keep h3 (by simpa using fun e => e2 e.symm), hl.ptr.keep h3 (by simpa using fun e => e3 e.symm), hl.nws.keep h3 (by simpa using fun e => e4 e.symm), hl.ods.keep h3 (by simpa using fun e => e5 e.symm), hl.mem, hl.old, hl.nd⟩, ⟨_, h2⟩, h.hm, h.old, h.ne⟩, Lib.hid h3⟩
theorem RhIn.dv_at (h : RhIn W w F x b p db tk pb nb ob hb M nw od pt H) {s : Nat} (hs : s < 2) : w.cell? ⟨db, s, none⟩ = some (.pointer (some ⟨x s, 0, none⟩)) := by
  rcases two_cases hs with rfl | rfl
  · exact h.lo.dv.cell (i := 0) rfl
  · exact h.lo.dv.cell (i := 1) rfl
theorem RhIn.protect {g : Nat} (h : RhIn W w F x b p db tk pb nb ob hb M nw od pt H) (hm : Mods [] w w') (hg : w.heap.size ≤ g) (hg' : g < w'.heap.size) : RhIn W w' (g :: F) x b p db tk pb nb ob hb M nw od pt H := by
  have hs := h.calm hm
  exact ⟨h.lo.protect hm hg hg', hs.map, List.mem_cons_of_mem _ h.hm, h.old, h.ne⟩
theorem RhIn.less {g : Nat} (h : RhIn W w (g :: F) x b p db tk pb nb ob hb M nw od pt H) (hF : ∀ g, g ∈ [tk, db, pb, nb, ob] → g ∈ F) (hm : hb ∈ F) : RhIn W w F x b p db tk pb nb ob hb M nw od pt H :=
  ⟨h.lo.less hF, h.map, hm, h.old, h.ne⟩
/-! harms -/
theorem rhGarble (h : RhIn W w F x b p db tk pb nb ob hb M nw od pt (setH H k)) (hH : Hm M nw pt H c) (hc : c ≤ 1000) {s : Nat} (hs : s < 2) (hk : k < 14) (hf : H k = false) {k4 : Nat} (hk4 : k4 = k + 4) (a : Nat) (y : UInt8) :
    Calls Tryz.prog 33 #[.pointer (some ⟨x s, 0, none⟩), .int .i64 (k4 : Nat), .int .i64 (a : Nat), .int .u8 (y.toNat : Nat)] w fun e w' => ∃ M', e = .returned (.tuple #[]) ∧ Hid (RhIn W w' F x b p db tk pb nb ob hb M' nw od pt (setH H k)) ∧ Hid (Hm M' nw pt (setH H k) (c + 1)) ∧ Hid (Minds F w w') := by
  subst hk4
  have h1 := hH.garble hs hk hf (a % 128) y
  refine (oGarble h.lo.own hH.gm.fine (by omega) hs (k := k + 4) (hH.gm.sec hH.still hs hk) a y).mono fun e w' ⟨e1, e2, e3⟩ => ⟨_, e1, Lib.hid (h.go e2.out e3.out), Lib.hid ⟨h1.gm.mono (by omega), h1.still, h1.spare, h1.reps, h1.bl, h1.cop, h1.ok⟩, e3⟩
theorem rhStick (h : RhIn W w F x b p db tk pb nb ob hb M nw od pt (setH H k)) (hH : Hm M nw pt H c) (hc : c ≤ 1000) {s : Nat} (hs : s < 2) (hk : k < 14) (hf : H k = false) {k4 : Nat} (hk4 : k4 = k + 4) :
    Calls Tryz.prog 18 #[.pointer (some ⟨x s, 0, none⟩), .int .i64 (k4 : Nat)] w fun e w' => ∃ M', e = .returned (.tuple #[]) ∧ Hid (RhIn W w' F x b p db tk pb nb ob hb M' nw od pt (setH H k)) ∧ Hid (Hm M' nw pt (setH H k) (c + 1)) ∧ Hid (Minds F w w') := by
  subst hk4
  have h1 := hH.stick hs hk hf
  refine (oStick h.lo.own hH.gm.fine (by omega) hs ((k + 4 : Nat) : Int)).mono fun e w' ⟨e1, e2, e3⟩ => ⟨_, e1, Lib.hid (h.go e2.out e3.out), Lib.hid ⟨h1.gm.mono (by omega), h1.still, h1.spare, h1.reps, h1.bl, h1.cop, h1.ok⟩, e3⟩
theorem rhDWrite (h : RhIn W w F x b p db tk pb nb ob hb M nw od pt (setH H k)) (hH : Hm M nw pt H c) (hc : c ≤ 1000) {s : Nat} (hs : s < 2) (hk : k < 14) (hf : H k = false) {k4 : Nat} (hk4 : k4 = k + 4) {Y : ByteArray} (hY : Y.size = 128) (hm : meetsL (pt k) Y.toList = true → Y = nw k) :
    Calls Tryz.prog 31 #[.pointer (some ⟨x s, 0, none⟩), .int .i64 (k4 : Nat), .string Y] w fun e w' => ∃ M', e = .returned (.int .i64 0) ∧ Hid (RhIn W w' F x b p db tk pb nb ob hb M' nw od pt (setH H k)) ∧ Hid (Hm M' nw pt (setH H k) (c + 1)) ∧ Hid (Minds F w w') := by
  subst hk4
  obtain ⟨D', e1, h1⟩ := hH.dwrite hs hk hf hY hm
  refine (oDWrite h.lo.own hH.gm.fine (by omega) hs ((k + 4 : Nat) : Int) Y).mono fun e w' ⟨a1, a2, a3⟩ => ?_
  rw [e1] at a1 a2
  exact ⟨_, a1, Lib.hid (h.go a2.out a3.out), Lib.hid h1, a3⟩
theorem Imgs.unlike_old (h : Imgs nw od pt tx) {j : Nat} (hj : j < 14) : (od j).size = 128 ∧ (meetsL (pt j) (od j).toList = true → od j = nw j) := by
  obtain ⟨q, hq⟩ := h.od j hj
  have hg := (h.nw j hj).gen
  exact ⟨hq.size, fun e => by rw [unlike_gen hq (by rw [hg]; decide)] at e; cases e⟩
theorem Imgs.unlike_next (h : Imgs nw od pt tx) {j i : Nat} (hj : j < 14) (hi : i < 14) (hne : i ≠ j) : (nw i).size = 128 ∧ (meetsL (pt j) (nw i).toList = true → nw i = nw j) := by
  have ha := (h.nw j hj).addr
  exact ⟨(h.nw i hi).size, fun e => by rw [unlike_addr (h.nw i hi) (by rw [ha]; omega)] at e; cases e⟩
theorem Imgs.unlike_nought (h : Imgs nw od pt tx) {j : Nat} (hj : j < 14) : meetsL (pt j) (nought 128).toList = true → nought 128 = nw j := by
  have hg := (h.nw j hj).gen
  exact fun e => by rw [Go.Proofs.YtnpfhfgegjocoaaGreat.unlike_nought (by rw [hg]; decide)] at e; cases e
theorem Hm.mono {c' : Nat} (h : Hm M nw pt H c) (hl : c ≤ c') : Hm M nw pt H c' := ⟨h.gm.mono hl, h.still, h.spare, h.reps, h.bl, h.cop, h.ok⟩
theorem rep128 {W : World} : Calls Tryz.prog 44 #[.string ⟨#[0]⟩, .int .i64 128] W fun e w' => ∃ z, e = .returned (.string z) ∧ Hid (z = nought 128) ∧ Hid (Mods [] W w') :=
  (repeat0_ex (W := W) 128 (by decide)).mono fun e w' ⟨z, h1, h2, _, h4⟩ => ⟨z, h1, Lib.hid (h2.out.trans (by unfold bA nought zerosL; rw [List.toArray_replicate])), Lib.hid h4⟩
/-! reads and checks -/
theorem rhStep (hK : Ck M nw pt H k) (hk : k < 14) (hI : Imgs nw od pt tx) :
    ∃ n M1 M2 M3, n ≤ 1 ∧ (H k = false → n = 0) ∧
      Hid (∀ w, RhIn W w F x b p db tk pb nb ob hb M nw od pt H → Calls Tryz.prog 34 #[.pointer (some ⟨b, 0, none⟩), ptrV (pt k)] w fun e w' => e = .returned (.tuple #[.int .u8 4, .string (tx k), .int .i64 0]) ∧ Hid (RhIn W w' F x b p db tk pb nb ob hb M1 nw od pt H)) ∧
      Hid (∀ w, RhIn W w F x b p db tk pb nb ob hb M1 nw od pt H → Calls Tryz.prog 39 #[.pointer (some ⟨b, 0, none⟩), ptrV (pt k)] w fun e w' => e = .returned (.tuple #[.int .i64 (n : Nat), .int .i64 0]) ∧ Hid (RhIn W w' F x b p db tk pb nb ob hb M2 nw od pt H)) ∧
      Hid (∀ w, RhIn W w F x b p db tk pb nb ob hb M2 nw od pt H → Calls Tryz.prog 39 #[.pointer (some ⟨b, 0, none⟩), ptrV (pt k)] w fun e w' => e = .returned (.tuple #[.int .i64 0, .int .i64 0]) ∧ Hid (RhIn W w' F x b p db tk pb nb ob hb M3 nw od pt H)) ∧
      Hid (Ck M3 nw pt H (k + 1)) := by
  have hIk := hI.nw k hk
  obtain ⟨n, M1, M2, M3, v1, e1, g1, r1, e2, l2, z2, g2, r2, e3, k3⟩ := hK.step hk hIk
  have hr := hK.reps
  refine ⟨n, M1, M2, M3, l2, z2, Lib.hid (fun w h => ?_), Lib.hid (fun w h => ?_), Lib.hid (fun w h => ?_), Lib.hid k3⟩
  · refine (oRead h.lo.own hK.gm.fine (by omega) (by omega) (pt k) hk hIk.addr).mono fun e w' ⟨h1, h2, h3⟩ => ?_
    rw [v1] at h1
    rw [e1] at h2
    exact ⟨h1, Lib.hid (h.go h2.out h3.out)⟩
  · refine (oChk h.lo.own g1.fine (by omega) (by omega) (pt k) hk hIk.addr).mono fun e w' ⟨h1, h2, h3⟩ => ?_
    rw [e2] at h1 h2
    exact ⟨h1, Lib.hid (h.go h2.out h3.out)⟩
  · refine (oChk h.lo.own g2.fine (by omega) (by omega) (pt k) hk hIk.addr).mono fun e w' ⟨h1, h2, h3⟩ => ?_
    rw [e3] at h1 h2
    exact ⟨h1, Lib.hid (h.go h2.out h3.out)⟩
end
end Go.Proofs.YtnpfhfgegjocoaaGreat
/- How many spares a side of the mirror's pair has left. -/
namespace Go.Proofs.YtnpfhfgegjocoaaGreat
open Go.RowKit

theorem rdTab {W w : World} {F : List Nat} {x : Nat → Nat} {b p : Nat} {M : Mi} {c : Nat} (h : OwnM W F w b p x M) (hG : Gm 14 128 6 c M) {s : Nat} (hs : s < 2) :
    Calls Tryz.prog 16 #[.pointer (some ⟨p, 0, none⟩), .int .i64 (s : Nat)] w fun e w' => ∃ v, e = .returned v ∧ Hid (Mods [] w w') ∧ Hid (Calls Tryz.prog 19 #[v] w' fun e w2 => e = .returned (.int .i64 ((6 - (M.P.tab s).moved.length : Nat) : Nat)) ∧ Hid (Mods [] w' w2)) := by
  obtain ⟨tb, mb, gp, fx, hI, _⟩ := h.ex
  refine (rTable_s hI.pair hs).mono fun e w' ⟨A, k, h1, h2, _, h4⟩ => ⟨_, h1, h4, Lib.hid ?_⟩
  have hok := (hG.pi.slots s hs).tok
  have hsp : (M.P.tab s).spares = 6 := by rw [(hG.pi.slots s hs).spares, hG.nn]
  have := tLeft_any (W := w') (M.P.tab s) h2.out hok
  rw [hsp] at this
  refine (show Calls Tryz.prog 19 #[.agg #[.int .i64 ((M.P.tab s).blocks : Nat), .int .i64 ((M.P.tab s).spares : Nat), .slice A (M.P.tab s).moved.length k]] w' _ from ?_)
  rw [hsp]
  unfold tabV at this
  rw [hsp] at this
  exact this.mono fun e w2 ⟨g1, g2⟩ => ⟨g1, Lib.hid g2⟩
theorem rdBad0 {W w : World} {F : List Nat} {x : Nat → Nat} {b p : Nat} {M : Mi} (h : OwnM W F w b p x M) (hb : M.bl = []) : Calls Tryz.prog 42 #[.pointer (some ⟨b, 0, none⟩)] w fun e w' => e = .returned (.slice none 0 0) ∧ Hid (Mods [] w w') := by
  obtain ⟨tb, mb, gp, fx, hI, _⟩ := h.ex
  exact mBad_0 hI hb
theorem rdBad {W w : World} {F : List Nat} {x : Nat → Nat} {b p : Nat} {M : Mi} (h : OwnM W F w b p x M) (hb : M.bl.length ≤ 12) : Calls Tryz.prog 42 #[.pointer (some ⟨b, 0, none⟩)] w fun e w' => ∃ A n c, e = .returned (.slice A n c) ∧ Hid (Mods [] w w') := by
  obtain ⟨tb, mb, gp, fx, hI, _⟩ := h.ex
  exact mBad_any hI hb
end Go.Proofs.YtnpfhfgegjocoaaGreat
namespace Go.Proofs.YtnpfhfgegjocoaaGreat
open Go.ChangeShapes Go.WideShapes Go.ChangeAt Go.RowKit

def strRow (l : List ByteArray) : List Value := l.flatMap fun s => [Value.string s]
theorem cellsStrR : Tryz.prog.cellsOf 9 = 1 := by kernel_rfl
set_option maxRecDepth 100000 in
theorem strs_open {H : Type} {enc : TypeId × Value → H} {W : World} {base : Nat} {v : Value} {d : DataW H} {p : List MemPlace} (hv : Value.okWide Tryz.prog W .any base 68 v) (hj : DataW.Trod enc Tryz.prog W 0 (fun _ => true) true 68 v d p) :
    ∃ (A : Option Addr) (len cap : Nat) (zs : List ByteArray), v = .slice A len cap ∧ Row W A (strRow zs) ∧ zs.length = len ∧ len ≤ cap ∧ cap ≤ maxLen := by
  obtain ⟨a0, len, cap, rfl⟩ := okWide_slice Tryz.underlying68 hv
  obtain ⟨fuel, hfu⟩ := hj
  obtain ⟨A, len, cap, zs, h1, h2, h3, h4, h5, _⟩ := structs_core (c := .slice a0 len cap) 1 (by omega) (fun s : ByteArray => [Value.string s]) (fun _ _ => True) (fun _ => rfl) Tryz.underlying68 cellsStrR (fun n cs y h hl => by
    match cs, hl with
    | [c0], _ =>
      obtain ⟨s, e, _, _⟩ := DataW.trod_string Tryz.underlying9 h
      exact ⟨s, e, trivial⟩) hfu
  exact ⟨A, len, cap, zs, h1, h2, h3, h4, h5⟩
theorem strRow_at {w : World} {A : Option Addr} {R : List ByteArray} (h : Row w A (strRow R)) {i : Nat} {x : ByteArray} (hx : R[i]? = some x) : ∃ b off, A = some ⟨b, off, none⟩ ∧ w.cell? ⟨b, off + i, none⟩ = some (.string x) := by
  have hl : ∀ s : ByteArray, ((fun s : ByteArray => [Value.string s]) s).length = 1 := fun _ => rfl
  have g := flat_get (fun s : ByteArray => [Value.string s]) hl hx (j := 0) (by omega)
  rw [Nat.mul_one, Nat.add_zero] at g
  rcases h with h | ⟨b, off, h1, h2⟩
  · rw [show R.flatMap (fun s : ByteArray => [Value.string s]) = strRow R from rfl, h] at g
    simp at g
  · exact ⟨b, off, h1, h2 i _ (g.trans rfl)⟩
structure Harm8 where
  hb : Int
  hs : Int
  hd : Int
  ha : Int
  hy : Nat
def hcells8 (a : Harm8) : List Value := [.int .i64 a.hb, .int .i64 a.hs, .int .i64 a.hd, .int .i64 a.ha, .int .u8 (a.hy : Nat)]
def hRow8 (l : List Harm8) : List Value := l.flatMap hcells8
theorem hcells8_len (a : Harm8) : (hcells8 a).length = 5 := rfl
instance : Inhabited Harm8 := ⟨⟨0, 0, 0, 0, 0⟩⟩
theorem cellsHarm8 : Tryz.prog.cellsOf 96 = 5 := by kernel_rfl
theorem cellsIntR : Tryz.prog.cellsOf 3 = 1 := by kernel_rfl
theorem cellsU8R : Tryz.prog.cellsOf 5 = 1 := by kernel_rfl
def Harm8.Ok (a : Harm8) : Prop := a.hy < 256 ∧ (-9223372036854775808 ≤ a.hb ∧ a.hb ≤ 9223372036854775807) ∧ (-9223372036854775808 ≤ a.hs ∧ a.hs ≤ 9223372036854775807) ∧ (-9223372036854775808 ≤ a.hd ∧ a.hd ≤ 9223372036854775807) ∧ (-9223372036854775808 ≤ a.ha ∧ a.ha ≤ 9223372036854775807)
set_option maxRecDepth 100000 in
theorem harm8_mk {H : Type} {enc : TypeId × Value → H} {W : World} {n : Nat} {cs : List Value} {y : DataW H × List MemPlace} (h : DataW.trod enc Tryz.prog W 0 (fun _ => true) true n 96 cs = some y) (hl : cs.length = 5) : ∃ a : Harm8, cs = hcells8 a ∧ a.Ok := by
  obtain ⟨xs, m, _, hy, _, hxl, hf⟩ := DataW.trod_struct Tryz.underlying96 h
  match cs, hl with
  | [c0, c1, c2, c3, c4], _ =>
    match xs, hxl with
    | [y0, y1, y2, y3, y4], _ =>
      have g0 := hf 0 _ rfl
      have g1 := hf 1 _ rfl
      have g2 := hf 2 _ rfl
      have g3 := hf 3 _ rfl
      have g4 := hf 4 _ rfl
      simp [cellsIntR, cellsU8R] at g0 g1 g2 g3 g4
      obtain ⟨a0, e0, f0, w0⟩ := DataW.trod_int Tryz.underlying3 g0
      obtain ⟨a1, e1, f1, w1⟩ := DataW.trod_int Tryz.underlying3 g1
      obtain ⟨a2, e2, f2, w2⟩ := DataW.trod_int Tryz.underlying3 g2
      obtain ⟨a3, e3, f3, w3⟩ := DataW.trod_int Tryz.underlying3 g3
      obtain ⟨a4, e4, f4, w4⟩ := DataW.trod_int Tryz.underlying5 g4
      simp at e0 e1 e2 e3 e4
      have b4 := bounds_u8 w4
      obtain ⟨y', hy'⟩ := Int.eq_ofNat_of_zero_le b4.1
      have b0 := bounds_i64 w0
      have b1 := bounds_i64 w1
      have b2 := bounds_i64 w2
      have b3 := bounds_i64 w3
      refine ⟨⟨a0, a1, a2, a3, y'⟩, ?_, ⟨by simp only; omega, b0, b1, b2, b3⟩⟩
      unfold hcells8
      rw [e0, e1, e2, e3, e4, hy']
set_option maxRecDepth 100000 in
theorem harms_open {H : Type} {enc : TypeId × Value → H} {W : World} {base : Nat} {v : Value} {d : DataW H} {p : List MemPlace} (hv : Value.okWide Tryz.prog W .any base 92 v) (hj : DataW.Trod enc Tryz.prog W 0 (fun _ => true) true 92 v d p) :
    ∃ (A : Option Addr) (len cap : Nat) (zs : List Harm8), v = .slice A len cap ∧ Row W A (hRow8 zs) ∧ zs.length = len ∧ len ≤ cap ∧ cap ≤ maxLen ∧ ∀ z ∈ zs, z.Ok := by
  obtain ⟨a0, len, cap, rfl⟩ := okWide_slice Tryz.underlying92 hv
  obtain ⟨fuel, hfu⟩ := hj
  obtain ⟨A, len, cap, zs, h1, h2, h3, h4, h5, h6⟩ := structs_core (c := .slice a0 len cap) 5 (by omega) hcells8 (fun a _ => a.Ok) hcells8_len Tryz.underlying92 cellsHarm8 (fun _ _ _ h hl => harm8_mk h hl) hfu
  exact ⟨A, len, cap, zs, h1, h2, h3, h4, h5, fun z hz => (h6 z hz).elim fun _ h => h.1⟩
theorem hRow8_at {w : World} {A : Option Addr} {R : List Harm8} (h : Row w A (hRow8 R)) {i : Nat} {x : Harm8} (hx : R[i]? = some x) : ∃ b off, A = some ⟨b, off, none⟩ ∧ w.cell? ⟨b, off + i * 5, none⟩ = some (.int .i64 x.hb) ∧ w.cell? ⟨b, off + i * 5 + 1, none⟩ = some (.int .i64 x.hs) ∧
    w.cell? ⟨b, off + i * 5 + 2, none⟩ = some (.int .i64 x.hd) ∧ w.cell? ⟨b, off + i * 5 + 3, none⟩ = some (.int .i64 x.ha) ∧ w.cell? ⟨b, off + i * 5 + 4, none⟩ = some (.int .u8 (x.hy : Nat)) := by
  have g := fun (j : Nat) (hj : j < 5) => flat_get hcells8 hcells8_len hx hj
  rcases h with h | ⟨b, off, h1, h2⟩
  · have := g 0 (by omega)
    rw [show R.flatMap hcells8 = hRow8 R from rfl, h] at this
    simp [hcells8] at this
  · refine ⟨b, off, h1, ?_, ?_, ?_, ?_, ?_⟩
    · exact h2 (i * 5) _ ((g 0 (by omega)).trans rfl)
    · rw [Nat.add_assoc]; exact h2 (i * 5 + 1) _ ((g 1 (by omega)).trans rfl)
    · rw [Nat.add_assoc]; exact h2 (i * 5 + 2) _ ((g 2 (by omega)).trans rfl)
    · rw [Nat.add_assoc]; exact h2 (i * 5 + 3) _ ((g 3 (by omega)).trans rfl)
    · rw [Nat.add_assoc]; exact h2 (i * 5 + 4) _ ((g 4 (by omega)).trans rfl)
end Go.Proofs.YtnpfhfgegjocoaaGreat
