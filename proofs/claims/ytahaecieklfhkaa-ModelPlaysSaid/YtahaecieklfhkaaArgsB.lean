/- Arguments that are slices: what the reading gives a walk. No program is named here. -/
import Derived.Test.YtahaecieklfhkaaLawPost
import Derived.OwnWalk
import Derived.Deep.Slices
namespace Go.Proofs.Ytahaecieklfhkaa
open Go.ChangeShapes Go.WideShapes Go.ChangeAt Go.RowKit

/-- A slice whose first cells are xs. -/
def Row (w : World) (A : Option Addr) (xs : List Value) : Prop := xs = [] ∨ ∃ b off, A = some ⟨b, off, none⟩ ∧ ∀ i u, xs[i]? = some u → w.cell? ⟨b, off + i, none⟩ = some u
/-- Its block is none of L, and lies there. -/
def Off (A : Option Addr) (L : List Nat) : Prop := ∀ a, A = some a → a.block ∉ L
theorem Row.lt {w : World} {b off : Nat} {xs : List Value} (h : Row w (some ⟨b, off, none⟩) xs) (hx : xs ≠ []) : b < w.heap.size := by
  rcases h with h | ⟨b', off', h1, h2⟩
  · exact absurd h hx
  · injection h1 with h1
    injection h1 with h1 h3
    subst h1
    cases xs with
    | nil => exact absurd rfl hx
    | cons x xs => exact World.block_lt_of_cell? w _ (h2 0 x rfl)
theorem Row.keep {w w1 : World} {A : Option Addr} {xs : List Value} (h : Row w A xs) {L : List Nat} (hm : Mods L w w1) (hn : Off A L) : Row w1 A xs := by
  rcases h with h | ⟨b, off, h1, h2⟩
  · exact .inl h
  · refine .inr ⟨b, off, h1, fun i u hi => ?_⟩
    have hc := h2 i u hi
    have hlt := World.block_lt_of_cell? w _ hc
    rw [hm.cell (p := ⟨b, off + i, none⟩) hlt (hn ⟨b, off, none⟩ h1)]
    exact hc
theorem Row.at {w : World} {A : Option Addr} {xs : List Value} (h : Row w A xs) {i : Nat} {u : Value} (hi : xs[i]? = some u) : ∃ b off, A = some ⟨b, off, none⟩ ∧ w.cell? ⟨b, off + i, none⟩ = some u := by
  rcases h with h | ⟨b, off, h1, h2⟩
  · subst h; cases hi
  · exact ⟨b, off, h1, h2 i u hi⟩
theorem Row.drewN {w : World} {A : Option Addr} {xs : List Value} (h : Row w A xs) (n : Nat) : Row (w.drewN n) A xs := h
/-- An owned row, read. -/
theorem row_of_owns {w : World} {base e n : Nat} {v : Value} {xs : List Value} (h : w.ownsRow base e 1 v n xs) :
    ∃ A cap, v = .slice A n cap ∧ Row w A xs ∧ (∀ a, A = some a → base ≤ a.block) ∧ xs.length = n ∧ n ≤ cap ∧ (A = none → n = 0 ∧ cap = 0) := by
  have h0 := h
  obtain ⟨h1, h2⟩ := h
  rcases h2 with ⟨h2, h3⟩ | ⟨g, cap, cur, hv, hg, hh, hn, hc, hs, hx⟩
  · subst h2 h3
    refine ⟨none, 0, rfl, .inl (List.eq_nil_of_length_eq_zero (by simpa using h1)), (fun a ha => by cases ha), (by simpa using h1), Nat.le_refl _, fun _ => ⟨rfl, rfl⟩⟩
  · subst hv
    refine ⟨some ⟨g, 0, none⟩, cap, rfl, .inr ⟨g, 0, rfl, fun i u hi => ?_⟩, fun a ha => by cases ha; exact hg, by simpa using h1, hn, fun h => by cases h⟩
    have := h0.cells (g := g) rfl i u hi
    rw [addr_add0] at this
    rw [Nat.zero_add]; exact this

/-- A prefix of a slice, whether it is nil or not. -/
theorem run_prefix (P : Program) (t e : TypeId) (i : TypeInfo) (A : Option Addr) (len cap : Nat) (k : Int) (W : World) (ht : P.underlying t = some (.slice e)) (hi : P.info? e = some i) (h0 : 0 ≤ k) (h1 : k ≤ cap) :
    (Instr.slice t (.slice A len cap) none (some (.int .i64 k)) none).run P W = .ok (.slice A k.toNat cap) W := by
  have hb : 0 ≤ k ∧ k ≤ (cap : Int) := ⟨h0, h1⟩
  simp [Instr.slice, run_underlying ht, Instr.sliceBounds, Instr.sliceBound, asIntOf, hb, go_sem, sizeOf, typeInfo, hi]
theorem addr_add (b o j : Nat) : (⟨b, o, none⟩ : Addr).add j = ⟨b, o + j, none⟩ := by
  unfold Addr.add; split <;> simp_all
def u8sOf (zs : List Nat) : List Value := zs.map (fun z => Value.int .u8 (z : Nat))

theorem row_of_ints {w : World} {a : Addr} {k : IntKind} {zs : List Int} {n : Nat} (hn : n ≤ zs.length) (hc : ∀ i, i < zs.length → w.cell? (a.add i) = some (.int k (zs.getD i 0))) :
    Row w (some a) ((zs.take n).map (Value.int k)) := by
  rcases Nat.eq_zero_or_pos n with h0 | h0
  · subst h0; exact .inl (by simp)
  · obtain ⟨b, o, s⟩ := a
    cases s with
    | some s =>
      have := hc 0 (by omega)
      simp [World.cell?, Addr.add] at this
      split at this <;> simp_all
    | none =>
      refine .inr ⟨b, o, rfl, fun i u hi => ?_⟩
      have hil : i < n := by
        have := (List.getElem?_eq_some_iff.1 hi).1
        simp at this; omega
      have := hc i (by omega)
      rw [addr_add] at this
      rw [this]
      rw [List.getElem?_map, List.getElem?_take, if_pos hil] at hi
      have e : zs[i]? = some (zs.getD i 0) := by
        simp [List.getD_eq_getElem?_getD, List.getElem?_eq_getElem (show i < zs.length by omega)]
      rw [e] at hi
      exact hi

theorem u8s_open {H : Type} {enc : TypeId × Value → H} {P : Program} {W : World} {t e : TypeId} {base : Nat} {v : Value} {d : DataW H} {p : List MemPlace} (ht : P.underlying t = some (.slice e)) (he : P.underlying e = some (.int .u8)) (hc : P.cellsOf e = 1)
    (hv : Value.okWide P W .any base t v) (hj : DataW.Trod enc P W 0 (fun _ => true) true t v d p) :
    ∃ (A : Option Addr) (len cap : Nat) (zs : List Nat), v = .slice A len cap ∧ Row W A (u8sOf zs) ∧ zs.length = len ∧ len ≤ cap ∧ cap ≤ maxLen ∧ ∀ z ∈ zs, z < 256 := by
  obtain ⟨a0, len, cap, rfl⟩ := okWide_slice ht hv
  obtain ⟨fuel, hf⟩ := hj
  rcases open_ints ht he hc hf with ⟨hcs, hx⟩ | ⟨a, len', cap', zs, hcs, _, hl, hm, hz, hx, hcell, hwz⟩
  · simp [Value.cells] at hcs
    obtain ⟨rfl, rfl, rfl⟩ := hcs
    exact ⟨none, 0, 0, [], rfl, .inl rfl, rfl, Nat.le_refl _, Nat.zero_le _, by simp⟩
  · simp [Value.cells] at hcs
    obtain ⟨rfl, rfl, rfl⟩ := hcs
    simp only [if_true] at hz
    have hb : ∀ n ∈ zs, 0 ≤ n ∧ n < 256 := fun n hn => by
      have := hwz n hn
      have := bounds_u8 this
      omega
    refine ⟨some a, len, cap, (zs.take len).map Int.toNat, rfl, ?_, by simp; omega, hl, hm, ?_⟩
    · have := row_of_ints (n := len) (by omega) hcell
      have e1 : u8sOf ((zs.take len).map Int.toNat) = (zs.take len).map (Value.int .u8) := by
        unfold u8sOf
        rw [List.map_map]
        apply List.map_congr_left
        intro n hn
        have := hb n (List.mem_of_mem_take hn)
        simp only [Function.comp]
        congr 1; omega
      rw [e1]; exact this
    · intro z hz2
      obtain ⟨n, hn, rfl⟩ := List.mem_map.1 hz2
      have := hb n (List.mem_of_mem_take hn)
      omega

/-! ### A slice of structs -/
theorem flat_get {α : Type} {k : Nat} (f : α → List Value) (hf : ∀ a, (f a).length = k) : ∀ {l : List α} {i : Nat} {a : α} {j : Nat}, l[i]? = some a → j < k → (l.flatMap f)[i * k + j]? = (f a)[j]?
  | [], _, _, _, h, _ => by cases h
  | x :: l, 0, a, j, h, hj => by
    simp only [List.getElem?_cons_zero, Option.some.injEq] at h
    subst h
    rw [List.flatMap_cons, List.getElem?_append_left (by rw [hf]; omega)]
    congr 1; omega
  | x :: l, i + 1, a, j, h, hj => by
    have ih := flat_get f hf (l := l) (i := i) (a := a) (j := j) (by simpa using h) hj
    rw [List.flatMap_cons, List.getElem?_append_right (by rw [hf, Nat.add_mul]; omega), hf, ← ih]
    congr 1
    rw [Nat.add_mul]; omega
theorem flat_length {α : Type} {k : Nat} (f : α → List Value) (hf : ∀ a, (f a).length = k) (l : List α) : (l.flatMap f).length = l.length * k := by
  induction l with
  | nil => simp
  | cons x l ih => rw [List.flatMap_cons, List.length_append, ih, hf, List.length_cons, Nat.add_mul]; omega
theorem structs_open {H : Type} {enc : TypeId × Value → H} {P : Program} {W : World} {t e : TypeId} {base : Nat} {v : Value} {d : DataW H} {p : List MemPlace} {α : Type} [Inhabited α] (k : Nat) (hk0 : 0 < k) (f : α → List Value) (hf : ∀ a, (f a).length = k) (ht : P.underlying t = some (.slice e)) (ce : P.cellsOf e = k)
    (hmk : ∀ (n : Nat) (cs : List Value) (y : DataW H × List MemPlace), DataW.trod enc P W 0 (fun _ => true) true n e cs = some y → cs.length = k → ∃ a : α, cs = f a)
    (hv : Value.okWide P W .any base t v) (hj : DataW.Trod enc P W 0 (fun _ => true) true t v d p) :
    ∃ (A : Option Addr) (len cap : Nat) (zs : List α), v = .slice A len cap ∧ Row W A (zs.flatMap f) ∧ zs.length = len ∧ len ≤ cap ∧ cap ≤ maxLen := by
  obtain ⟨a0, len, cap, rfl⟩ := okWide_slice ht hv
  obtain ⟨fuel, hfu⟩ := hj
  rcases Deep.open_slice ht hfu with ⟨hcs, hx⟩ | ⟨a, len', cap', m, n, D, Pl, hcs, _, hl, hm, hmm, hx, hcell⟩
  · simp [Value.cells] at hcs
    obtain ⟨rfl, rfl, rfl⟩ := hcs
    exact ⟨none, 0, 0, [], rfl, .inl rfl, rfl, Nat.le_refl _, Nat.zero_le _⟩
  · simp [Value.cells] at hcs
    obtain ⟨rfl, rfl, rfl⟩ := hcs
    simp only [if_true] at hmm
    have hex : ∀ i, ∃ z : α, i < m → ∀ j, j < k → W.cell? ((a.add (i * k)).add j) = (f z)[j]? := by
      intro i
      by_cases hi : i < m
      · obtain ⟨cs', h1, h2⟩ := hcell i hi
        rw [ce] at h1
        obtain ⟨_, hlen, hc⟩ := World.cells?_some h1
        obtain ⟨z, rfl⟩ := hmk _ _ _ h2 hlen
        exact ⟨z, fun _ => hc⟩
      · exact ⟨default, fun h => absurd h hi⟩
    obtain ⟨F, hF⟩ := Classical.axiomOfChoice hex
    refine ⟨some a, len, cap, (List.range len).map F, rfl, ?_, by simp, hl, hm⟩
    rcases Nat.eq_zero_or_pos len with h0 | h0
    · subst h0; exact .inl rfl
    · obtain ⟨b, o, s⟩ := a
      cases s with
      | some s =>
        have h1 := hF 0 (by omega) 0 hk0
        have h2 : ((f (F 0))[0]?).isSome = true := by rw [List.getElem?_eq_getElem (by rw [hf]; exact hk0)]; rfl
        rw [← h1] at h2
        simp [World.cell?, Addr.add] at h2
        split at h2 <;> simp_all
      | none =>
        refine .inr ⟨b, o, rfl, fun i u hi => ?_⟩
        have hil : i < len * k := by
          have := (List.getElem?_eq_some_iff.1 hi).1
          rw [flat_length f hf] at this
          simpa using this
        have hdiv : i / k < len := Nat.div_lt_of_lt_mul (by rw [Nat.mul_comm]; exact hil)
        have hmod : i % k < k := Nat.mod_lt _ hk0
        have hd := Nat.div_add_mod i k
        have hg := flat_get f hf (l := (List.range len).map F) (i := i / k) (a := F (i / k)) (j := i % k) (by rw [List.getElem?_map, List.getElem?_range hdiv]; rfl) hmod
        have h1 := hF (i / k) (by omega) (i % k) hmod
        rw [addr_add, addr_add] at h1
        have e1 : i / k * k + i % k = i := by rw [Nat.mul_comm]; exact hd
        rw [e1] at hg
        rw [show o + i / k * k + i % k = o + i by omega] at h1
        rw [h1, ← hg]; exact hi
end Go.Proofs.Ytahaecieklfhkaa
