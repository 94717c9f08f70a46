/- Small contracts over a set: answers by name; a slice that is read; what is of a set is what isn't of the turned one. -/
import Derived.Test.YtahaecieklfhkaaDoorBits6
namespace Go.Proofs.YtahaecieklfhkaaDoor
open Go.RowKit

/-- A slice whose first cells are xs. -/
def Row (w : World) (A : Option Addr) (xs : List Value) : Prop := xs = [] ∨ ∃ b off, A = some ⟨b, off, none⟩ ∧ ∀ i u, xs[i]? = some u → w.cell? ⟨b, off + i, none⟩ = some u
/-- Its block is none of L, and lies there. -/
def Off (A : Option Addr) (L : List Nat) : Prop := ∀ a, A = some a → a.block ∉ L
theorem Row.lt {w : World} {b off : Nat} {xs : List Value} (h : Row w (some ⟨b, off, none⟩) xs) (hx : xs ≠ []) : b < w.heap.size := by
  rcases h with h | ⟨b', off', h1, h2⟩
  · exact absurd h hx
  · injection h1 with h1
    injection h1 with h1 h3
    subst h1
    cases xs with
    | nil => exact absurd rfl hx
    | cons x xs => exact World.block_lt_of_cell? w _ (h2 0 x rfl)
theorem Row.keep {w w1 : World} {A : Option Addr} {xs : List Value} (h : Row w A xs) {L : List Nat} (hm : Mods L w w1) (hn : Off A L) : Row w1 A xs := by
  rcases h with h | ⟨b, off, h1, h2⟩
  · exact .inl h
  · refine .inr ⟨b, off, h1, fun i u hi => ?_⟩
    have hc := h2 i u hi
    have hlt := World.block_lt_of_cell? w _ hc
    rw [hm.cell (p := ⟨b, off + i, none⟩) hlt (hn ⟨b, off, none⟩ h1)]
    exact hc
theorem Row.at {w : World} {A : Option Addr} {xs : List Value} (h : Row w A xs) {i : Nat} {u : Value} (hi : xs[i]? = some u) : ∃ b off, A = some ⟨b, off, none⟩ ∧ w.cell? ⟨b, off + i, none⟩ = some u := by
  rcases h with h | ⟨b, off, h1, h2⟩
  · subst h; cases hi
  · exact ⟨b, off, h1, h2 i u hi⟩
theorem Row.drewN {w : World} {A : Option Addr} {xs : List Value} (h : Row w A xs) (n : Nat) : Row (w.drewN n) A xs := h
/-- An owned row, read. -/
theorem row_of_owns {w : World} {base e n : Nat} {v : Value} {xs : List Value} (h : w.ownsRow base e 1 v n xs) :
    ∃ A cap, v = .slice A n cap ∧ Row w A xs ∧ (∀ a, A = some a → base ≤ a.block) ∧ xs.length = n ∧ n ≤ cap ∧ (A = none → n = 0 ∧ cap = 0) := by
  have h0 := h
  obtain ⟨h1, h2⟩ := h
  rcases h2 with ⟨h2, h3⟩ | ⟨g, cap, cur, hv, hg, hh, hn, hc, hs, hx⟩
  · subst h2 h3
    refine ⟨none, 0, rfl, .inl (List.eq_nil_of_length_eq_zero (by simpa using h1)), (fun a ha => by cases ha), (by simpa using h1), Nat.le_refl _, fun _ => ⟨rfl, rfl⟩⟩
  · subst hv
    refine ⟨some ⟨g, 0, none⟩, cap, rfl, .inr ⟨g, 0, rfl, fun i u hi => ?_⟩, fun a ha => by cases ha; exact hg, by simpa using h1, hn, fun h => by cases h⟩
    have := h0.cells (g := g) rfl i u hi
    rw [addr_add0] at this
    rw [Nat.zero_add]; exact this

/-- A prefix of a slice, whether it is nil or not. -/
theorem run_prefix (P : Program) (t e : TypeId) (i : TypeInfo) (A : Option Addr) (len cap : Nat) (k : Int) (W : World) (ht : P.underlying t = some (.slice e)) (hi : P.info? e = some i) (h0 : 0 ≤ k) (h1 : k ≤ cap) :
    (Instr.slice t (.slice A len cap) none (some (.int .i64 k)) none).run P W = .ok (.slice A k.toNat cap) W := by
  have hA : A.map (·.add 0) = A := by cases A <;> simp [Addr.add]
  have hb : 0 ≤ k ∧ k ≤ (cap : Int) := ⟨h0, h1⟩
  simp [Instr.slice, run_underlying ht, Instr.sliceBounds, Instr.sliceBound, asIntOf, hb, go_sem, sizeOf, typeInfo, hi, hA]
theorem info_u8 : (Tryd.prog.info? 5).map (fun i => (i.zero, i.size, i.bytes)) = some (some (.int .u8 0), 1, 1) := by kernel_rfl
theorem onL_length (l : List Bool) : (onL l).length ≤ l.length := by
  unfold onL; have := List.length_filter_le (fun k => mem l k) (List.range l.length); simpa using this
theorem has_to {w : World} {b c : Nat} {l : List Bool} (h : IsSet w b c l) (k : Int) (x : Bool) (hx : memI l k = x) :
    Calls Tryd.prog 14 #[.pointer (some ⟨b, 0, none⟩), .int .i64 k] w fun e w' => e = .returned (.bool x) ∧ ∃ n, w' = w.drewN n := by
  subst hx; exact has_any h k
theorem list_row {w : World} {b c : Nat} {l : List Bool} (h : IsSet w b c l) (hT : Tab w) :
    Calls Tryd.prog 17 #[.pointer (some ⟨b, 0, none⟩)] w fun e w' => ∃ A cap, e = .returned (.slice A (onL l).length cap) ∧ Row w' A (intsOf (onL l)) ∧ Mods [] w w' ∧ (∀ a, A = some a → w.heap.size ≤ a.block) ∧
      (onL l).length ≤ cap ∧ (A = none → (onL l).length = 0 ∧ cap = 0) := by
  refine (list_any h hT).mono fun e w' ⟨v, he, hown, hm, _⟩ => ?_
  obtain ⟨A, cap, rfl, h1, h2, _, h4, h5⟩ := row_of_owns hown
  exact ⟨A, cap, he, h1, hm, h2, h4, h5⟩

/-- The set in which all are turned, below k. -/
def turned (l : List Bool) (k : Nat) : List Bool := (l.take k).map (!·) ++ List.replicate (l.length - k) false
theorem turned_zero (l : List Bool) : turned l 0 = List.replicate l.length false := by simp [turned]
theorem turned_length (l : List Bool) (k : Nat) (hk : k ≤ l.length) : (turned l k).length = l.length := by simp [turned]; omega
theorem turned_all (l : List Bool) : turned l l.length = l.map (!·) := by simp [turned]
theorem turned_step (l : List Bool) (k : Nat) (hk : k < l.length) : setI (turned l k) k (!mem l k) = turned l (k + 1) := by
  unfold setI
  have hi : inB ((turned l k).length : Int) (k : Int) = true := by rw [turned_length l k (by omega)]; simp [inB]; omega
  rw [if_pos hi, Int.toNat_natCast]
  unfold turned
  have e1 : l.length - k = (l.length - (k + 1)) + 1 := by omega
  have e2 : ((l.take k).map (!·)).length = k := by simp; omega
  rw [e1, List.replicate_succ, List.set_append, if_neg (by rw [e2]; omega), e2, Nat.sub_self, List.set_cons_zero, mem_get hk, List.take_succ_eq_append_getElem hk, List.map_append, List.append_assoc]
  rfl
theorem turned_next (l : List Bool) (f : Int) : nextI (l.map (!·)) f false = nextI l f true := by
  unfold nextI nextL
  rw [List.length_map]
  have h : ∀ (xs : List Nat) (p q : Nat → Bool), (∀ x ∈ xs, p x = q x) → xs.find? p = xs.find? q := by
    intro xs p q
    induction xs with
    | nil => intro _; rfl
    | cons x xs ih =>
      intro h
      rw [List.find?_cons, List.find?_cons, h x (by simp), ih (fun y hy => h y (by simp [hy]))]
  apply h
  intro x hx
  have hx := List.mem_range.1 hx
  rw [mem_get hx, mem_get (by simpa using hx)]
  have e : (l.map (!·))[x]'(by simpa using hx) = !l[x] := by simp
  rw [e]
  generalize l[x] = y
  cases y <;> rfl
theorem turned_count (l : List Bool) : l.count true + (l.map (!·)).count true = l.length := by
  induction l with
  | nil => rfl
  | cons x xs ih => cases x <;> simp <;> omega
theorem setI_back (l : List Bool) (k : Nat) (x : Bool) (hk : k < l.length) (hx : memI l k = x) : setI (setI l k (!x)) k x = l ∧ memI (setI l k (!x)) k = !x ∧ (setI l k (!x)).length = l.length := by
  have hi : inB (l.length : Int) (k : Int) = true := by simp [inB]; omega
  have e1 : setI l k (!x) = l.set k (!x) := by unfold setI; rw [if_pos hi, Int.toNat_natCast]
  have hi2 : inB ((l.set k (!x)).length : Int) (k : Int) = true := by simpa using hi
  rw [memI_nat] at hx
  refine ⟨?_, ?_, ?_⟩
  · rw [e1]
    unfold setI
    rw [if_pos hi2, Int.toNat_natCast, List.set_set]
    exact set_same x hx hk
  · rw [e1, memI_nat, mem_set, if_pos ⟨rfl, hk⟩]
  · rw [e1]; simp
end Go.Proofs.YtahaecieklfhkaaDoor
