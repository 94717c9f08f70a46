/- Arguments that are slices of bytes: what the reading gives a walk. No program is named here. -/
import Derived.Test.YtahaecieklfhkaaDoorLawPost
import Derived.Test.YtahaecieklfhkaaDoorBits7
namespace Go.Proofs.YtahaecieklfhkaaDoor
open Go.ChangeShapes Go.WideShapes Go.ChangeAt Go.RowKit

theorem addr_add (b o j : Nat) : (⟨b, o, none⟩ : Addr).add j = ⟨b, o + j, none⟩ := by
  unfold Addr.add; split <;> simp_all
def u8sOf (zs : List Nat) : List Value := zs.map (fun z => Value.int .u8 (z : Nat))

theorem row_of_ints {w : World} {a : Addr} {k : IntKind} {zs : List Int} {n : Nat} (hn : n ≤ zs.length) (hc : ∀ i, i < zs.length → w.cell? (a.add i) = some (.int k (zs.getD i 0))) :
    Row w (some a) ((zs.take n).map (Value.int k)) := by
  rcases Nat.eq_zero_or_pos n with h0 | h0
  · subst h0; exact .inl (by simp)
  · obtain ⟨b, o, s⟩ := a
    cases s with
    | some s =>
      have := hc 0 (by omega)
      simp [World.cell?, Addr.add] at this
      split at this <;> simp_all
    | none =>
      refine .inr ⟨b, o, rfl, fun i u hi => ?_⟩
      have hil : i < n := by
        have := (List.getElem?_eq_some_iff.1 hi).1
        simp at this; omega
      have := hc i (by omega)
      rw [addr_add] at this
      rw [this]
      rw [List.getElem?_map, List.getElem?_take, if_pos hil] at hi
      have e : zs[i]? = some (zs.getD i 0) := by
        simp [List.getD_eq_getElem?_getD, List.getElem?_eq_getElem (show i < zs.length by omega)]
      rw [e] at hi
      exact hi

theorem u8s_open {H : Type} {enc : TypeId × Value → H} {P : Program} {W : World} {t e : TypeId} {base : Nat} {v : Value} {d : DataW H} {p : List MemPlace} (ht : P.underlying t = some (.slice e)) (he : P.underlying e = some (.int .u8)) (hc : P.cellsOf e = 1)
    (hv : Value.okWide P W .any base t v) (hj : DataW.Trod enc P W 0 (fun _ => true) true t v d p) :
    ∃ (A : Option Addr) (len cap : Nat) (zs : List Nat), v = .slice A len cap ∧ Row W A (u8sOf zs) ∧ zs.length = len ∧ len ≤ cap ∧ cap ≤ maxLen ∧ ∀ z ∈ zs, z < 256 := by
  obtain ⟨a0, len, cap, rfl⟩ := okWide_slice ht hv
  obtain ⟨fuel, hf⟩ := hj
  rcases open_ints ht he hc hf with ⟨hcs, hx⟩ | ⟨a, len', cap', zs, hcs, _, hl, hm, hz, hx, hcell, hwz⟩
  · simp [Value.cells] at hcs
    obtain ⟨rfl, rfl, rfl⟩ := hcs
    exact ⟨none, 0, 0, [], rfl, .inl rfl, rfl, Nat.le_refl _, Nat.zero_le _, by simp⟩
  · simp [Value.cells] at hcs
    obtain ⟨rfl, rfl, rfl⟩ := hcs
    simp only [if_true] at hz
    have hb : ∀ n ∈ zs, 0 ≤ n ∧ n < 256 := fun n hn => by
      have := hwz n hn
      have := bounds_u8 this
      omega
    refine ⟨some a, len, cap, (zs.take len).map Int.toNat, rfl, ?_, by simp; omega, hl, hm, ?_⟩
    · have := row_of_ints (n := len) (by omega) hcell
      have e1 : u8sOf ((zs.take len).map Int.toNat) = (zs.take len).map (Value.int .u8) := by
        unfold u8sOf
        rw [List.map_map]
        apply List.map_congr_left
        intro n hn
        have := hb n (List.mem_of_mem_take hn)
        simp only [Function.comp]
        congr 1; omega
      rw [e1]; exact this
    · intro z hz2
      obtain ⟨n, hn, rfl⟩ := List.mem_map.1 hz2
      have := hb n (List.mem_of_mem_take hn)
      omega
end Go.Proofs.YtahaecieklfhkaaDoor
