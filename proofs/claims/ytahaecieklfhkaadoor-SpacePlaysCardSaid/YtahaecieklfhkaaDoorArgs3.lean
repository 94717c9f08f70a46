/- Arguments that are arrays of two numbers: what the reading gives a walk. No program is named here. -/
import Derived.Test.YtahaecieklfhkaaDoorArgs
import Derived.OpenShut
namespace Go.Proofs.YtahaecieklfhkaaDoor
open Go.ChangeShapes Go.WideShapes Go.ChangeAt Go.RowKit

theorem arr2_open {H : Type} {enc : TypeId × Value → H} {P : Program} {W : World} {t e : TypeId} {q : IntKind} {base : Nat} {v : Value} {d : DataW H} {p : List MemPlace} (ht : P.underlying t = some (.array 2 e)) (he : P.underlying e = some (.int q))
    (ct : P.cellsOf t = 2) (ce : P.cellsOf e = 1) (hv : Value.okWide P W .any base t v) (hj : DataW.Trod enc P W 0 (fun _ => true) true t v d p) :
    ∃ a b : Int, v = .agg #[.int q a, .int q b] ∧ d = .agg [.lit (.int q a), .lit (.int q b)] ∧ p = [] ∧ (Lit.int q a).wf = true ∧ (Lit.int q b).wf = true := by
  simp only [Value.okWide, ht] at hv
  obtain ⟨cs, rfl, hsz, _⟩ := hv
  rw [ct] at hsz
  obtain ⟨l⟩ := cs
  obtain ⟨c0, c1, rfl⟩ : ∃ c0 c1, l = [c0, c1] := by
    match l, hsz with
    | [c0, c1], _ => exact ⟨c0, c1, rfl⟩
  obtain ⟨fuel, hf⟩ := hj
  obtain ⟨xs, m, rfl, hx, _, hl, hg⟩ := DataW.trod_array ht hf
  have g0 := hg 0 (by omega)
  have g1 := hg 1 (by omega)
  rw [ce] at g0 g1
  simp [Value.cells] at g0 g1
  obtain ⟨y0, y1, rfl⟩ : ∃ y0 y1, xs = [y0, y1] := by
    match xs, hl with
    | [y0, y1], _ => exact ⟨y0, y1, rfl⟩
  simp at g0 g1
  obtain ⟨a, ea, rfl, wa⟩ := DataW.trod_int he g0
  obtain ⟨b, eb, rfl, wb⟩ := DataW.trod_int he g1
  simp at ea eb
  subst ea eb
  simp only [Prod.mk.injEq] at hx
  obtain ⟨rfl, rfl⟩ := hx
  exact ⟨a, b, rfl, rfl, rfl, wa, wb⟩
end Go.Proofs.YtahaecieklfhkaaDoor
