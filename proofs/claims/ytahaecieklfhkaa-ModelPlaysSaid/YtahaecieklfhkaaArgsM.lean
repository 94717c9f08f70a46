/- Arguments that are slices of structs, with what the form says of their sizes; updates. -/
import Derived.Test.YtahaecieklfhkaaModel7
import Derived.SizedLaws
namespace Go.Proofs.Ytahaecieklfhkaa
open Go.ChangeShapes Go.WideShapes Go.ChangeAt Go.RowKit

theorem weightsAll_mem {H : Type} {P : Program} {e : TypeId} : ∀ {l : List (DataW H)} {d : DataW H}, d ∈ l → ∀ n ∈ d.weights P e, n ∈ DataW.weightsAll P e l
  | d' :: r, d, hd, n, hn => by
    simp only [DataW.weightsAll, List.mem_append]
    rcases List.mem_cons.1 hd with rfl | h
    · exact Or.inl hn
    · exact Or.inr (weightsAll_mem h n hn)
theorem structs_core {H : Type} {enc : TypeId × Value → H} {P : Program} {W : World} {t e : TypeId} {fuel : Nat} {c : Value} {x : DataW H × List MemPlace} {α : Type} [Inhabited α] (k : Nat) (hk0 : 0 < k) (f : α → List Value) (Q : α → DataW H → Prop) (hf : ∀ a, (f a).length = k) (ht : P.underlying t = some (.slice e)) (ce : P.cellsOf e = k)
    (hmk : ∀ (n : Nat) (cs : List Value) (y : DataW H × List MemPlace), DataW.trod enc P W 0 (fun _ => true) true n e cs = some y → cs.length = k → ∃ a : α, cs = f a ∧ Q a y.1)
    (hfu : DataW.trod enc P W 0 (fun _ => true) true fuel t [c] = some x) :
    ∃ (A : Option Addr) (len cap : Nat) (zs : List α), c = .slice A len cap ∧ Row W A (zs.flatMap f) ∧ zs.length = len ∧ len ≤ cap ∧ cap ≤ maxLen ∧ ∀ z ∈ zs, ∃ y, Q z y ∧ ∀ n ∈ y.weights P e, n ∈ x.1.weights P t := by
  rcases Deep.open_slice ht hfu with ⟨hcs, hx⟩ | ⟨a, len, cap, m, n, D, Pl, hcs, _, hl, hm, hmm, hx, hcell⟩
  · injection hcs with hcs _
    subst hcs
    exact ⟨none, 0, 0, [], rfl, .inl rfl, rfl, Nat.le_refl _, Nat.zero_le _, fun z hz => by cases hz⟩
  · injection hcs with hcs _
    subst hcs
    simp only [if_true] at hmm
    have hex : ∀ i, ∃ z : α, i < m → (∀ j, j < k → W.cell? ((a.add (i * k)).add j) = (f z)[j]?) ∧ Q z (D i) := by
      intro i
      by_cases hi : i < m
      · obtain ⟨cs', h1, h2⟩ := hcell i hi
        rw [ce] at h1
        obtain ⟨_, hlen, hc⟩ := World.cells?_some h1
        obtain ⟨z, rfl, hq⟩ := hmk _ _ _ h2 hlen
        exact ⟨z, fun _ => ⟨hc, hq⟩⟩
      · exact ⟨default, fun h => absurd h hi⟩
    obtain ⟨F, hF⟩ := Classical.axiomOfChoice hex
    refine ⟨some a, len, cap, (List.range len).map F, rfl, ?_, by simp, hl, hm, ?_⟩
    · rcases Nat.eq_zero_or_pos len with h0 | h0
      · subst h0; exact .inl rfl
      · obtain ⟨b, o, s⟩ := a
        cases s with
        | some s =>
          have h1 := (hF 0 (by omega)).1 0 hk0
          have h2 : ((f (F 0))[0]?).isSome = true := by rw [List.getElem?_eq_getElem (by rw [hf]; exact hk0)]; rfl
          rw [← h1] at h2
          simp [World.cell?, Addr.add] at h2
          split at h2 <;> simp_all
        | none =>
          refine .inr ⟨b, o, rfl, fun i u hi => ?_⟩
          have hil : i < len * k := by
            have := (List.getElem?_eq_some_iff.1 hi).1
            rw [flat_length f hf] at this
            simpa using this
          have hdiv : i / k < len := Nat.div_lt_of_lt_mul (by rw [Nat.mul_comm]; exact hil)
          have hmod : i % k < k := Nat.mod_lt _ hk0
          have hd := Nat.div_add_mod i k
          have hg := flat_get f hf (l := (List.range len).map F) (i := i / k) (a := F (i / k)) (j := i % k) (by rw [List.getElem?_map, List.getElem?_range hdiv]; rfl) hmod
          have h1 := (hF (i / k) (by omega)).1 (i % k) hmod
          rw [addr_add, addr_add] at h1
          rw [Nat.mul_comm] at hd
          rw [hd] at hg
          rw [hg] at hi
          rw [hi, Nat.add_assoc, hd] at h1
          exact h1
    · intro z hz
      obtain ⟨i, hi, rfl⟩ := List.mem_map.1 hz
      have hil := List.mem_range.1 hi
      refine ⟨D i, (hF i (by omega)).2, fun n hn => ?_⟩
      rw [hx]
      simp only [DataW.weights, ht, List.mem_cons, List.mem_append]
      exact .inr (.inl (weightsAll_mem (List.mem_map.2 ⟨i, hi, rfl⟩) n hn))

theorem cellsU8T : Try.prog.cellsOf 5 = 1 := by kernel_rfl
theorem cellsStrT : Try.prog.cellsOf 9 = 1 := by kernel_rfl
theorem cellsU64T : Try.prog.cellsOf 25 = 1 := by kernel_rfl
theorem cellsUp28 : Try.prog.cellsOf 27 = 4 := by kernel_rfl
def upQ (u : Upd) {H : Type} (d : DataW H) : Prop := d = .agg [.lit (.int .u8 (u.kind : Nat)), .lit (.string u.key.data.toList), .lit (.string u.val.data.toList), .lit (.int .u64 (u.delta : Nat))] ∧ u.kind < 256 ∧ u.delta < 18446744073709551616
set_option maxRecDepth 100000 in
theorem up28_mk {H : Type} {enc : TypeId × Value → H} {W : World} {n : Nat} {cs : List Value} {y : DataW H × List MemPlace} (h : DataW.trod enc Try.prog W 0 (fun _ => true) true n 27 cs = some y) (hl : cs.length = 4) : ∃ u : Upd, cs = ucells u ∧ upQ u y.1 := by
  obtain ⟨xs, m, _, hy, _, hxl, hf⟩ := DataW.trod_struct Try.underlying27 h
  match cs, hl with
  | [c0, c1, c2, c3], _ =>
    match xs, hxl with
    | [y0, y1, y2, y3], _ =>
      have g0 := hf 0 _ rfl
      have g1 := hf 1 _ rfl
      have g2 := hf 2 _ rfl
      have g3 := hf 3 _ rfl
      simp [cellsU8T, cellsU64T, cellsStrT] at g0 g1 g2 g3
      obtain ⟨a0, e0, f0, w0⟩ := DataW.trod_int Try.underlying5 g0
      obtain ⟨s1, e1, f1, _⟩ := DataW.trod_string Try.underlying9 g1
      obtain ⟨s2, e2, f2, _⟩ := DataW.trod_string Try.underlying9 g2
      obtain ⟨a3, e3, f3, w3⟩ := DataW.trod_int Try.underlying25 g3
      have b0 := bounds_u8 w0
      have b3 := bounds_u64 w3
      obtain ⟨a0, rfl⟩ := Int.eq_ofNat_of_zero_le b0.1
      obtain ⟨a3, rfl⟩ := Int.eq_ofNat_of_zero_le b3.1
      simp at e0 e1 e2 e3
      subst e0 e1 e2 e3 f0 f1 f2 f3
      refine ⟨⟨a0, s1, s2, a3⟩, rfl, ?_, show a0 < 256 by omega, show a3 < 18446744073709551616 by omega⟩
      rw [hy]; rfl
instance : Inhabited Upd := ⟨⟨0, ⟨#[]⟩, ⟨#[]⟩, 0⟩⟩
/-- What the form says of an update that is handed in. -/
def upR (u : Upd) : Prop := u.kind < 256 ∧ u.delta < 18446744073709551616 ∧ u.key.size ≤ 140737488351232 ∧ u.val.size ≤ 140737488351232
theorem reach_eq : reachBytes = 140737488351232 := rfl
set_option maxRecDepth 100000 in
theorem upR_of {H : Type} {u : Upd} {d : DataW H} {L : List Nat} (hq : upQ u d) (hw : ∀ n ∈ d.weights Try.prog 27, n ∈ L) (hL : ∀ n ∈ L, n ≤ reachBytes) : upR u := by
  obtain ⟨rfl, h1, h2⟩ := hq
  rw [reach_eq] at hL
  have hfs : ∃ fs, Try.prog.underlying 27 = some (.struct fs) ∧ fs.toList.map (·.type) = [5, 9, 9, 25] := ⟨_, Try.underlying27, rfl⟩
  obtain ⟨fs, hu, ht⟩ := hfs
  refine ⟨h1, h2, ?_, ?_⟩
  · refine hL _ (hw _ ?_)
    simp only [DataW.weights, hu, ht, DataW.weightsEach, List.mem_append, List.mem_singleton, Array.length_toList]
    simp
  · refine hL _ (hw _ ?_)
    simp only [DataW.weights, hu, ht, DataW.weightsEach, List.mem_append, List.mem_singleton, Array.length_toList]
    simp
set_option maxRecDepth 100000 in
theorem ups_open {H : Type} {enc : TypeId × Value → H} {W : World} {base : Nat} {v : Value} {d : DataW H} {p : List MemPlace} (hv : Value.okWide Try.prog W .any base 22 v) (hj : DataW.Trod enc Try.prog W 0 (fun _ => true) true 22 v d p) (hsz : ∀ n ∈ d.weights Try.prog 22, n ≤ reachBytes) :
    ∃ (A : Option Addr) (len cap : Nat) (zs : List Upd), v = .slice A len cap ∧ Row W A (uRow zs) ∧ zs.length = len ∧ len ≤ cap ∧ cap ≤ maxLen ∧ ∀ z ∈ zs, upR z := by
  obtain ⟨a0, len, cap, rfl⟩ := okWide_slice Try.underlying22 hv
  obtain ⟨fuel, hfu⟩ := hj
  obtain ⟨A, len, cap, zs, h1, h2, h3, h4, h5, h6⟩ := structs_core (c := .slice a0 len cap) 4 (by omega) ucells (fun u d => upQ u d) ucells_len Try.underlying22 cellsUp28 (fun _ _ _ h hl => up28_mk h hl) hfu
  refine ⟨A, len, cap, zs, h1, h2, h3, h4, h5, fun z hz => ?_⟩
  obtain ⟨y, hy, hw⟩ := h6 z hz
  exact upR_of hy hw hsz
end Go.Proofs.Ytahaecieklfhkaa
