/- The law's update of few keys, whichever kind. -/
import Derived.Test.YtahaecieklfhkaaModelEq1b
import Derived.Test.YtahaecieklfhkaaModelEq1c
namespace Go.Proofs.Ytahaecieklfhkaa
theorem of28_any {W : World} (u : Upd) (hu : upR u) : Calls Try.prog 11 #[.agg (ucells u).toArray] W fun e w' => ∃ u1 u2 : Upd, e = .returned (.tuple #[.agg (ucells u1).toArray, .agg (ucells u2).toArray]) ∧ Mods [] W w' := by
  obtain ⟨k, key, val, d⟩ := u
  obtain ⟨h1, h2, h3, h4⟩ := hu
  simp only at h1 h2 h3 h4
  have hq3 : (k : Int) % 3 = ((0 : Nat) : Int) ∨ (k : Int) % 3 = ((1 : Nat) : Int) ∨ (k : Int) % 3 = ((2 : Nat) : Int) := by omega
  rcases hq3 with h | h | h
  · exact of28_put h1 h2 h3 h4 h
  · exact of28_del h1 h2 h3 h4 h
  · exact of28_add h1 h2 h3 h4 h
end Go.Proofs.Ytahaecieklfhkaa
