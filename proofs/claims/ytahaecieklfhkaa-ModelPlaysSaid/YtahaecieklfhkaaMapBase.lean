/- A map whose keys are of one plain type, told as a function from keys to elements, and how many entries it has. No program is named here. -/
import Derived.Test.YtahaecieklfhkaaBase
import Derived.Maps.RangeRun
import Derived.MapKept
namespace Go.Proofs.Ytahaecieklfhkaa
open Go.RowKit Go.MapKept

/-- Block b is a map: key a has the element F a; n entries. -/
def MapK {κ : Type} (kv : κ → Value) (w : World) (b : Nat) (F : κ → Option Value) (n : Nat) : Prop :=
  ∃ es clock, w.heap[b]? = some (.map es clock) ∧ Stamped es clock ∧ (∀ x ∈ es.toList, ∃ a, x.key = kv a) ∧ (∀ a v, F a = some v ↔ ∃ x ∈ es.toList, x.key = kv a ∧ x.val = v) ∧ es.size = n

section
variable {κ : Type} {kv : κ → Value} {d : TypeDesc} {P : Program} {w : World} {b : Nat} {F : κ → Option Value} {n : Nat}

theorem MapK.keep {w1 : World} (h : MapK kv w b F n) {L : List Nat} (hm : Mods L w w1) (hn : b ∉ L) : MapK kv w1 b F n := by
  obtain ⟨es, clock, h1, h2⟩ := h
  exact ⟨es, clock, hm.keep h1 hn, h2⟩
theorem MapK.drewN (h : MapK kv w b F n) (q : Nat) : MapK kv (w.drewN q) b F n := h
theorem MapK.lt (h : MapK kv w b F n) : b < w.heap.size := by obtain ⟨es, clock, h1, _⟩ := h; exact lt_of_block h1
theorem MapK.made (w : World) : MapK kv (w.alloc (.map #[] 0)) w.heap.size (fun _ => none) 0 :=
  ⟨#[], 0, (MapKept.heap_alloc w _).1, stamped_empty 0, by simp, by simp, rfl⟩

theorem MapK.lookup {T K E : TypeId} {z : Value} (h : MapK kv w b F n) (hk : ∀ a, IsKey d (kv a)) (hT : P.underlying T = some (.map K E)) (hK : P.underlying K = some d) (hz : (zeroValue E).run P w = .ok z w) (a : κ) (c : Bool) :
    (Instr.lookup T (.map (some b)) (kv a) c).run P w = .ok (if c then .tuple #[(F a).getD z, .bool (F a).isSome] else (F a).getD z) w := by
  obtain ⟨es, clock, h1, h2, h3, h4, h5⟩ := h
  have hkeys : ∀ x ∈ es.toList, IsKey d x.key := fun x hx => by obtain ⟨a, e⟩ := h3 x hx; rw [e]; exact hk a
  rcases findNow_spec (hk a) es.toList 0 hkeys with ⟨hf, hno⟩ | ⟨j, e, hf, hj, he⟩
  · have hFa : F a = none := by
      cases hF : F a with
      | none => rfl
      | some v =>
        obtain ⟨x, hx, hxk, _⟩ := (h4 a v).1 hF
        exact absurd hxk (hno x hx)
    cases c <;> simp [Instr.lookup, run_underlying hT, Result.andThen, MapKept.run_getObj_map h1, run_checkKey hK (hk a), run_findKey hK hf, hz, hFa]
  · have hFa : F a = some e.val := (h4 a e.val).2 ⟨e, List.mem_of_getElem? hj, he, rfl⟩
    cases c <;> simp [Instr.lookup, run_underlying hT, Result.andThen, MapKept.run_getObj_map h1, run_checkKey hK (hk a), run_findKey hK hf, hFa]

theorem MapK.len {T K E : TypeId} (h : MapK kv w b F n) (hT : P.underlying T = some (.map K E)) (ty : TypeId) : (Builtin.len_ #[T] ty #[.map (some b)]).run P w = .ok (.int .i64 n) w := by
  obtain ⟨es, clock, h1, h2, h3, h4, h5⟩ := h
  simp [Builtin.len_, run_underlying hT, Result.andThen, MapKept.run_getObj_map h1, goInt, h5]

/-- F, but v at a. -/
def putF [DecidableEq κ] (F : κ → Option Value) (a : κ) (v : Value) : κ → Option Value := fun x => if x = a then some v else F x
/-- F, but nothing at a. -/
def delF [DecidableEq κ] (F : κ → Option Value) (a : κ) : κ → Option Value := fun x => if x = a then none else F x

theorem MapK.update [DecidableEq κ] {T K E : TypeId} (h : MapK kv w b F n) (hk : ∀ a, IsKey d (kv a)) (hinj : ∀ a c, kv a = kv c → a = c) (hT : P.underlying T = some (.map K E)) (hK : P.underlying K = some d) (a : κ) (v : Value) :
    ∃ w1, (Instr.mapUpdate T (.map (some b)) (kv a) v).run P w = .ok () w1 ∧ MapK kv w1 b (putF F a v) (if (F a).isSome then n else n + 1) ∧ Mods [b] w w1 ∧ w1.heap.size = w.heap.size := by
  obtain ⟨es, clock, h1, h2, h3, h4, h5⟩ := h
  have hkeys : ∀ x ∈ es.toList, IsKey d x.key := fun x hx => by obtain ⟨a, e⟩ := h3 x hx; rw [e]; exact hk a
  have hmods : ∀ o, Mods [b] w { w with heap := w.heap.setIfInBounds b o } := fun o => ⟨rfl, rfl, rfl, by simp, fun k _ hn => (heap_set h1).2 k (by simpa using hn)⟩
  rcases findNow_spec (hk a) es.toList 0 hkeys with ⟨hf, hno⟩ | ⟨j, e, hf, hj, he⟩
  · have hFa : F a = none := by
      cases hF : F a with
      | none => rfl
      | some v =>
        obtain ⟨x, hx, hxk, _⟩ := (h4 a v).1 hF
        exact absurd hxk (hno x hx)
    refine ⟨{ w with heap := w.heap.setIfInBounds b (.map (es.push { key := kv a, val := v, born := clock }) (clock + 1)) }, ?_, ⟨_, _, (heap_set h1).1, stamped_push h2 hno, ?_, ?_, ?_⟩, hmods _, by simp⟩
    · simp [Instr.mapUpdate, run_underlying hT, MapKept.run_getObj_map h1, run_checkKey hK (hk a), run_findKey hK hf, run_setObj_map _ h1, Result.andThen]
    · intro x hx
      simp only [Array.toList_push, List.mem_append, List.mem_singleton] at hx
      rcases hx with hx | rfl
      · exact h3 x hx
      · exact ⟨a, rfl⟩
    · intro c u
      simp only [Array.toList_push, List.mem_append, List.mem_singleton, putF]
      by_cases hc : c = a
      · subst hc
        rw [if_pos rfl]
        constructor
        · intro hu; injection hu with hu; exact ⟨_, .inr rfl, rfl, hu⟩
        · rintro ⟨x, hx | rfl, hxk, hxv⟩
          · exact absurd hxk (hno x hx)
          · exact congrArg some hxv
      · rw [if_neg hc, h4 c u]
        constructor
        · rintro ⟨x, hx, hxk, hxv⟩; exact ⟨x, .inl hx, hxk, hxv⟩
        · rintro ⟨x, hx | rfl, hxk, hxv⟩
          · exact ⟨x, hx, hxk, hxv⟩
          · exact absurd (hinj _ _ hxk).symm hc
    · rw [hFa]; simp [h5]
  · have hj' : es[j]? = some e := by simpa using hj
    have hFa : F a = some e.val := (h4 a e.val).2 ⟨e, List.mem_of_getElem? hj, he, rfl⟩
    have hkey : ∀ e', es[j]? = some e' → ({ e' with key := kv a, val := v } : MapEntry).key = e'.key := fun e' he' => by rw [hj'] at he'; cases he'; exact he.symm
    have hst := stamped_modify h2 j (fun e' => { e' with key := kv a, val := v }) (fun _ _ => rfl) (fun e' _ he' => hkey e' he')
    have hjlt : j < es.size := by
      have := (Array.getElem?_eq_some_iff.1 hj').1; exact this
    have hmem : ∀ x : MapEntry, x ∈ (es.modify j fun e' => { e' with key := kv a, val := v }).toList ↔ (x = { e with key := kv a, val := v } ∨ (x ∈ es.toList ∧ x.key ≠ kv a)) := by
      intro x
      have hget : ∀ i, (es.modify j fun e' => { e' with key := kv a, val := v }).toList[i]? = if j = i then (es.toList[i]?).map (fun e' => { e' with key := kv a, val := v }) else es.toList[i]? := by
        intro i
        rw [Array.getElem?_toList, Array.getElem?_modify, Array.getElem?_toList]
      constructor
      · intro hx
        obtain ⟨i, hi⟩ := List.getElem?_of_mem hx
        rw [hget] at hi
        by_cases hij : j = i
        · subst hij
          rw [if_pos rfl, hj] at hi
          injection hi with hi
          exact .inl hi.symm
        · rw [if_neg hij] at hi
          refine .inr ⟨List.mem_of_getElem? hi, fun hxk => hij ?_⟩
          have hn := h2.2.2
          have e1 : (es.toList.map (·.key))[j]? = some (kv a) := by rw [List.getElem?_map, hj]; exact congrArg some he
          have e2 : (es.toList.map (·.key))[i]? = some (kv a) := by rw [List.getElem?_map, hi]; exact congrArg some hxk
          exact (List.getElem?_inj (List.getElem?_eq_some_iff.1 e1).1 hn).1 (e1.trans e2.symm)
      · rintro (rfl | ⟨hx, hxk⟩)
        · apply List.mem_of_getElem? (i := j)
          rw [hget, if_pos rfl, hj]; rfl
        · obtain ⟨i, hi⟩ := List.getElem?_of_mem hx
          apply List.mem_of_getElem? (i := i)
          rw [hget, if_neg, hi]
          rintro rfl
          rw [hj] at hi
          injection hi with hi
          subst hi
          exact hxk he
    refine ⟨{ w with heap := w.heap.setIfInBounds b (.map (es.modify j fun e' => { e' with key := kv a, val := v }) clock) }, ?_, ⟨_, _, (heap_set h1).1, hst, ?_, ?_, ?_⟩, hmods _, by simp⟩
    · simp [Instr.mapUpdate, run_underlying hT, MapKept.run_getObj_map h1, run_checkKey hK (hk a), run_findKey hK hf, hj', he, run_keyThatStays (hk a), run_setObj_map _ h1, Result.andThen]
    · intro x hx
      rcases (hmem x).1 hx with rfl | ⟨hx, _⟩
      · exact ⟨a, rfl⟩
      · exact h3 x hx
    · intro c u
      unfold putF
      by_cases hc : c = a
      · subst hc
        rw [if_pos rfl]
        constructor
        · intro hu; injection hu with hu; exact ⟨_, (hmem _).2 (.inl rfl), rfl, hu⟩
        · rintro ⟨x, hx, hxk, hxv⟩
          rcases (hmem x).1 hx with rfl | ⟨_, hne⟩
          · exact congrArg some hxv
          · exact absurd hxk hne
      · rw [if_neg hc, h4 c u]
        constructor
        · rintro ⟨x, hx, hxk, hxv⟩
          exact ⟨x, (hmem x).2 (.inr ⟨hx, fun e => hc (hinj _ _ (hxk.symm.trans e))⟩), hxk, hxv⟩
        · rintro ⟨x, hx, hxk, hxv⟩
          rcases (hmem x).1 hx with rfl | ⟨hx, _⟩
          · exact absurd (hinj _ _ hxk).symm hc
          · exact ⟨x, hx, hxk, hxv⟩
    · rw [hFa]; simp [h5]

theorem MapK.delete [DecidableEq κ] {T K E ty : TypeId} (h : MapK kv w b F n) (hk : ∀ a, IsKey d (kv a)) (hinj : ∀ a c, kv a = kv c → a = c) (hT : P.underlying T = some (.map K E)) (hK : P.underlying K = some d) (a : κ) :
    ∃ w1, (Builtin.delete_ #[T, K] ty #[.map (some b), kv a]).run P w = .ok (.tuple #[]) w1 ∧ MapK kv w1 b (delF F a) (if (F a).isSome then n - 1 else n) ∧ Mods [b] w w1 ∧ w1.heap.size = w.heap.size := by
  obtain ⟨es, clock, h1, h2, h3, h4, h5⟩ := h
  have hkeys : ∀ x ∈ es.toList, IsKey d x.key := fun x hx => by obtain ⟨a, e⟩ := h3 x hx; rw [e]; exact hk a
  have hmods : ∀ o, Mods [b] w { w with heap := w.heap.setIfInBounds b o } := fun o => ⟨rfl, rfl, rfl, by simp, fun k _ hn => (heap_set h1).2 k (by simpa using hn)⟩
  rcases findNow_spec (hk a) es.toList 0 hkeys with ⟨hf, hno⟩ | ⟨j, e, hf, hj, he⟩
  · have hFa : F a = none := by
      cases hF : F a with
      | none => rfl
      | some v =>
        obtain ⟨x, hx, hxk, _⟩ := (h4 a v).1 hF
        exact absurd hxk (hno x hx)
    refine ⟨{ w with heap := w.heap.setIfInBounds b (.map es clock) }, ?_, ⟨_, _, (heap_set h1).1, h2, h3, ?_, ?_⟩, hmods _, by simp⟩
    · simp [Builtin.delete_, run_underlying hT, MapKept.run_getObj_map h1, run_checkKey hK (hk a), run_findKey hK hf, run_setObj_map _ h1, Result.andThen]
    · intro c u
      unfold delF
      by_cases hc : c = a
      · subst hc
        rw [if_pos rfl, ← hFa]; exact h4 c u
      · rw [if_neg hc]; exact h4 c u
    · rw [hFa]; simp [h5]
  · have hj' : es[j]? = some e := by simpa using hj
    have hFa : F a = some e.val := (h4 a e.val).2 ⟨e, List.mem_of_getElem? hj, he, rfl⟩
    have hjlt : j < es.size := (Array.getElem?_eq_some_iff.1 hj').1
    have hl : (es.eraseIdxIfInBounds j).toList = es.toList.eraseIdx j := by
      unfold Array.eraseIdxIfInBounds
      rw [dif_pos hjlt]; simp
    have hmem : ∀ x : MapEntry, x ∈ es.toList.eraseIdx j ↔ (x ∈ es.toList ∧ x.key ≠ kv a) := by
      intro x
      rw [List.mem_eraseIdx_iff_getElem?]
      have hn := h2.2.2
      constructor
      · rintro ⟨i, hij, hi⟩
        refine ⟨List.mem_of_getElem? hi, fun hxk => hij ?_⟩
        have e1 : (es.toList.map (·.key))[j]? = some (kv a) := by rw [List.getElem?_map, hj]; exact congrArg some he
        have e2 : (es.toList.map (·.key))[i]? = some (kv a) := by rw [List.getElem?_map, hi]; exact congrArg some hxk
        exact (List.getElem?_inj (List.getElem?_eq_some_iff.1 e2).1 hn).1 (e2.trans e1.symm)
      · rintro ⟨hx, hxk⟩
        obtain ⟨i, hi⟩ := List.getElem?_of_mem hx
        refine ⟨i, ?_, hi⟩
        rintro rfl
        rw [hj] at hi
        injection hi with hi
        subst hi
        exact hxk he
    refine ⟨{ w with heap := w.heap.setIfInBounds b (.map (es.eraseIdxIfInBounds j) clock) }, ?_, ⟨_, _, (heap_set h1).1, stamped_erase h2 j, ?_, ?_, ?_⟩, hmods _, by simp⟩
    · simp [Builtin.delete_, run_underlying hT, MapKept.run_getObj_map h1, run_checkKey hK (hk a), run_findKey hK hf, run_setObj_map _ h1, Result.andThen]
    · intro x hx
      rw [hl] at hx
      exact h3 x ((hmem x).1 hx).1
    · intro c u
      rw [hl]
      unfold delF
      by_cases hc : c = a
      · subst hc
        rw [if_pos rfl]
        constructor
        · intro hu; cases hu
        · rintro ⟨x, hx, hxk, _⟩
          exact absurd hxk ((hmem x).1 hx).2
      · rw [if_neg hc, h4 c u]
        constructor
        · rintro ⟨x, hx, hxk, hxv⟩
          exact ⟨x, (hmem x).2 ⟨hx, fun e => hc (hinj _ _ (hxk.symm.trans e))⟩, hxk, hxv⟩
        · rintro ⟨x, hx, hxk, hxv⟩
          exact ⟨x, ((hmem x).1 hx).1, hxk, hxv⟩
    · have : (es.eraseIdxIfInBounds j).size = es.toList.length - 1 := by
        rw [← Array.length_toList, hl, List.length_eraseIdx]
        have : j < es.toList.length := by simpa using hjlt
        rw [if_pos this]
      rw [this, hFa]; simp [h5]
end
end Go.Proofs.Ytahaecieklfhkaa
