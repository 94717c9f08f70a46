/- Appending to a full slice; a row of entries that the call owns, known whole. -/
import Derived.Test.YtahaecieklfhkaaArgsM
import Derived.ArgAppend
namespace Go.Proofs.Ytahaecieklfhkaa
open Go.RowKit

section
variable {P : Program} (w : World)
theorem run_append_full (t ty e : TypeId) (i : TypeInfo) (z : Value) (size bytes : Nat) (ht : P.underlying t = some (.slice e)) (hi : P.info? e = some i) (hz : i.zero = some z)
    (hsize : i.size = size) (hby : i.bytes = bytes) (hzs : z.cells.size = size) (hsz : 0 < size)
    (b : Addr) (n : Nat) (olds : List Value) (hlo : olds.length = n * size) (hrow : Row w (some b) olds)
    (a : Addr) (m c : Nat) (news : List Value) (hl : news.length = m * size) (hnews : ∀ j u, news[j]? = some u → w.cell? (a.add j) = some u)
    (h63 : n + m ≤ maxLen) (hbytes : (n + m) * bytes ≤ 140737488355328) :
    ∃ A cap w', (Builtin.append_ #[t, t] ty #[.slice (some b) n n, .slice (some a) m c]).run P w = .ok (.slice A (n + m) cap) w' ∧ Row w' A (olds ++ news) ∧ w.grownBy w' none := by
  rcases Nat.eq_zero_or_pos m with rfl | hm
  · obtain rfl : news = [] := List.eq_nil_of_length_eq_zero (by simpa using hl)
    have hf := run_firstCells_some (P := P) w size 0 a 0 c [] (by simp) (by simp)
    refine ⟨some b, n, w, ?_, by rw [List.append_nil]; exact hrow, ⟨rfl, rfl, rfl, Nat.le_refl _, fun _ _ _ => rfl⟩⟩
    subst hsize
    simp [Builtin.append_, run_underlying ht, sizeOf, typeInfo, hi, Builtin.lenOf, hf, storeCells]
  · have holds : ∀ j u, olds[j]? = some u → w.cell? (b.add j) = some u := by
      intro j u hj
      rcases hrow with rfl | ⟨g, o, hA, hc⟩
      · cases hj
      · injection hA with hA
        subst hA
        have := hc j u hj
        rw [addr_add]
        exact this
    obtain ⟨v', w', hr, h2, h3⟩ := run_append_arg_grows (P := P) w t ty e i z size bytes ht hi hz hsize hby hzs hsz b n n olds hlo holds a m c news hl hnews (by omega) h63 hbytes
    obtain ⟨g, cap, rfl, _, _⟩ := h2.form (by omega)
    refine ⟨_, _, w', hr, .inr ⟨g, 0, rfl, fun j u hj => ?_⟩, h3⟩
    have := h2.cells (g := g) rfl j u hj
    rw [addr_add0] at this
    rw [Nat.zero_add]; exact this
theorem step_append_full {ops : Array Oper} {o : Oper} {a : Act} {K : Act → World → Prop} {Q : Exit → Act → World → Prop} {E : Prop} (hgd : o.guard = none) (s x : Operand) (t : TypeId)
    (ho : o.op = .call { callee := .builtin .append, args := #[s, x], argTypes := #[t, t] })
    (e : TypeId) (i : TypeInfo) (z : Value) (size bytes : Nat) (ht : P.underlying t = some (.slice e)) (hi : P.info? e = some i) (hz : i.zero = some z)
    (hsize : i.size = size) (hby : i.bytes = bytes) (hzs : z.cells.size = size) (hsz : 0 < size)
    (b : Addr) (n : Nat) (olds : List Value) (hs : a.eval s = .slice (some b) n n) (hlo : olds.length = n * size) (hrow : Row w (some b) olds)
    (ad : Addr) (m c : Nat) (news : List Value) (hx : a.eval x = .slice (some ad) m c) (hl : news.length = m * size) (hnews : ∀ j u, news[j]? = some u → w.cell? (ad.add j) = some u)
    (h63 : n + m ≤ maxLen) (hbytes : (n + m) * bytes ≤ 140737488355328)
    (h : ∀ A cap w', Row w' A (olds ++ news) → w.grownBy w' none → K (a.put o.dst (.slice A (n + m) cap)) w') :
    if Region.wanted o (yielded ops a.tmps) = true then Oper.wp P o a w K Q else E := by
  have hw : Region.wanted o (yielded ops a.tmps) = true := by simp [Region.wanted, hgd]
  rw [if_pos hw]
  obtain ⟨A, cap, w', hr, h2, h3⟩ := run_append_full (P := P) w t o.type e i z size bytes ht hi hz hsize hby hzs hsz b n olds hlo hrow ad m c news hl hnews h63 hbytes
  unfold Oper.wp execOp
  simp only [ho, resolve, invoke, builtin, Sem.run_bind, Sem.run_pure, Result.andThen_ok, List.map_toArray, List.map_cons, List.map_nil, hs, hx, hr]
  exact h A cap w' h2 h3
end

/-- A row of entries that the call owns, its block known whole. -/
theorem owns2_blk {w : World} {base n : Nat} {e : TypeId} {u : Value} {xs : List Value} (h : w.ownsRow base e 2 u n xs) (hn : 0 < n) :
    ∃ g cap rest, u = .slice (some ⟨g, 0, none⟩) n cap ∧ base ≤ g ∧ Blk w g e (xs ++ rest) ∧ n * 2 + rest.length = cap * 2 ∧ cap ≤ maxLen := by
  obtain ⟨h1, h2⟩ := h
  rcases h2 with ⟨_, h0⟩ | ⟨g, cap, cur, rfl, hb, hh, hnc, hc, hs, hx⟩
  · omega
  · refine ⟨g, cap, cur.toList.drop (n * 2), rfl, hb, ?_, ?_, hc⟩
    · rw [← hx, List.take_append_drop]; exact hh
    · simp [hs]; omega
theorem blk_row {w : World} {g : Nat} {e : TypeId} {xs rest : List Value} (h : Blk w g e (xs ++ rest)) : Row w (some ⟨g, 0, none⟩) xs :=
  .inr ⟨g, 0, rfl, fun i u hi => by
    rw [Nat.zero_add]
    exact h.cell (by rw [List.getElem?_append_left (List.getElem?_eq_some_iff.1 hi).1]; exact hi)⟩
theorem owns_keepM {w w1 : World} {base n s : Nat} {e : TypeId} {v : Value} {xs : List Value} (h : w.ownsRow base e s v n xs) {L : List Nat} (hm : Mods L w w1) (hL : ∀ g, base ≤ g → g ∉ L) : w1.ownsRow base e s v n xs := by
  refine ⟨h.1, ?_⟩
  rcases h.2 with h | ⟨g, cap, cur, h1, h2, h3, h4⟩
  · exact .inl h
  · exact .inr ⟨g, cap, cur, h1, h2, hm.keep h3 (hL g h2), h4⟩
/-! Entries, changed in one place. -/
theorem eRow_split {E : Ents} {k : Nat} {x : ByteArray × ByteArray} (h : E[k]? = some x) : E = E.take k ++ x :: E.drop (k + 1) := by
  obtain ⟨hk, rfl⟩ := List.getElem?_eq_some_iff.1 h
  rw [List.getElem_cons_drop, List.take_append_drop]
theorem eRow_app (A B : Ents) : eRow (A ++ B) = eRow A ++ eRow B := by unfold eRow; simp
theorem eRow_set {E : Ents} {k : Nat} {x : ByteArray × ByteArray} (h : E[k]? = some x) (y : ByteArray × ByteArray) (rest : List Value) :
    eRow (E.set k y) ++ rest = ((eRow E ++ rest).set (k * 2) (.string y.1)).set (k * 2 + 1) (.string y.2) := by
  have hk := (List.getElem?_eq_some_iff.1 h).1
  have hl : (eRow (E.take k)).length = k * 2 := by rw [eRow_len, List.length_take]; omega
  have h1 : E.set k y = E.take k ++ y :: E.drop (k + 1) := by rw [List.set_eq_take_append_cons_drop, if_pos hk]
  have h2 := eRow_split h
  have e : eRow E = eRow (E.take k) ++ eRow (x :: E.drop (k + 1)) := by rw [← eRow_app, ← h2]
  rw [h1, e, eRow_app, List.append_assoc, List.append_assoc, List.set_append_right _ _ (by omega), List.set_append_right _ _ (by omega), hl]
  simp [eRow, ecells]
theorem set_ne {E : Ents} {k : Nat} {x y : ByteArray × ByteArray} (h : E[k]? = some x) (hne : x ≠ y) : E ≠ E.set k y := by
  intro e
  have hk := (List.getElem?_eq_some_iff.1 h).1
  have h2 : (E.set k y)[k]? = some y := by rw [List.getElem?_set_self hk]
  rw [← e, h] at h2
  exact hne (Option.some.inj h2)
theorem snoc_ne (s : ByteArray) : s ≠ s ++ ⟨#[120]⟩ := by
  intro e
  have h2 := congrArg ByteArray.size e
  rw [ByteArray.size_append] at h2
  have h3 : (⟨#[120]⟩ : ByteArray).size = 1 := rfl
  omega
theorem stepE_len (E : Ents) (u : Upd) : (stepE E u).length ≤ E.length + 1 := by
  unfold stepE
  split
  · omega
  · unfold doE
    split
    · unfold insE
      have h : ∀ (l : Ents) (k : ByteArray), (l.filter fun e => blt e.1 k).length + (l.filter fun e => blt k e.1).length ≤ l.length := by
        intro l k
        induction l with
        | nil => simp
        | cons a l ih =>
          cases h1 : blt a.1 k
          · cases h2 : blt k a.1 <;> simp [h1, h2] <;> omega
          · have h2 := blt_asymm h1
            simp [h1, h2]; omega
      have := h E u.key
      rw [List.length_append, List.length_cons]
      omega
    · unfold delE
      have := List.length_filter_le (fun e : ByteArray × ByteArray => decide (e.1 ≠ u.key)) E
      omega
end Go.Proofs.Ytahaecieklfhkaa
