/- An argument that is a struct: updates, two bounds and a count. -/
import Derived.Test.YtahaecieklfhkaaArgsM
import Derived.Lib.SmallJoins
namespace Go.Proofs.Ytahaecieklfhkaa
open Go.ChangeShapes Go.WideShapes Go.ChangeAt Go.RowKit Go.Joins

set_option maxRecDepth 100000 in
theorem play_open {H : Type} {enc : TypeId × Value → H} {W : World} {base : Nat} {v : Value} {d : DataW H} {p : List MemPlace} (hv : Value.okWide Try.prog W .any base 78 v) (hj : DataW.Trod enc Try.prog W 0 (fun _ => true) true 78 v d p) (hsz : ∀ n ∈ d.weights Try.prog 78, n ≤ reachBytes) :
    ∃ (A : Option Addr) (len cap : Nat) (zs : List Upd) (lo hi : ByteArray) (mo : Int), v = .agg #[.slice A len cap, .string lo, .string hi, .int .i64 mo] ∧ Row W A (uRow zs) ∧ zs.length = len ∧ len ≤ cap ∧ cap ≤ maxLen ∧ (∀ z ∈ zs, upR z) ∧ (Lit.int .i64 mo).wf = true := by
  obtain ⟨v0, v1, v2, v3, y0, y1, y2, y3, n, rfl, rfl, _, h0, h1, h2, h3⟩ := open_agg4 Try.underlying78 (by kernel_rfl) (by kernel_rfl) hv hj
  obtain ⟨A, len, cap, zs, rfl, g2, g3, g4, g5, g6⟩ := structs_core (c := v0) 4 (by omega) ucells (fun u d => upQ u d) ucells_len Try.underlying22 cellsUp28 (fun _ _ _ h hl => up28_mk h hl) h0
  obtain ⟨s1, e1, _, _⟩ := DataW.trod_string Try.underlying9 h1
  obtain ⟨s2, e2, _, _⟩ := DataW.trod_string Try.underlying9 h2
  obtain ⟨a3, e3, _, w3⟩ := DataW.trod_int Try.underlying3 h3
  simp at e1 e2 e3
  subst e1 e2 e3
  refine ⟨A, len, cap, zs, s1, s2, a3, rfl, g2, g3, g4, g5, fun z hz => ?_, w3⟩
  obtain ⟨y, hy, hw⟩ := g6 z hz
  have hfs : ∃ fs, Try.prog.underlying 78 = some (.struct fs) ∧ fs.toList.map (·.type) = [22, 9, 9, 3] := ⟨_, Try.underlying78, rfl⟩
  obtain ⟨fs, hu, ht⟩ := hfs
  refine upR_of hy (L := DataW.weights Try.prog 22 y0.1) hw (fun n hn => hsz n ?_)
  simp only [DataW.weights, hu, ht, DataW.weightsEach, List.mem_append]
  exact .inl hn
end Go.Proofs.Ytahaecieklfhkaa
