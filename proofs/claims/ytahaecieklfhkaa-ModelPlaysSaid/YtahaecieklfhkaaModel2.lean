/- What an update makes of a value, and whether it may be: the program's and the document's. -/
import Derived.Test.YtahaecieklfhkaaModel1
namespace Go.Proofs.Ytahaecieklfhkaa
open Go.RowKit

/-- An update, as the program has it. -/
def updV (u : Upd) : Value := .agg #[.int .u8 (u.kind : Nat), .string u.key, .string u.val, .int .u64 (u.delta : Nat)]
theorem empty_eq (s : ByteArray) : s.toList.isEmpty = decide (s.size = 0) := by
  by_cases h : s.size = 0
  · rw [empty_of h]; simp [h]
  · rw [empty_not h]; simp [h]
theorem empty_iff (s : ByteArray) : s = ByteArray.empty ↔ s.size = 0 := by
  constructor
  · rintro rfl; rfl
  · intro h
    cases s with
    | mk d => rw [show d = #[] from Array.eq_empty_of_size_eq_zero h]; rfl
set_option maxRecDepth 100000 in
set_option maxHeartbeats 3200000 in
theorem uCheck_any {W : World} (u : Upd) : Calls Try.prog 37 #[updV u] W fun e w' => e = .returned (.int .i64 (checkU u : Nat)) ∧ Mods [] W w' := by
  obtain ⟨k, key, val, d⟩ := u
  unfold updV
  have e1 := empty_eq key
  have e2 := empty_eq val
  go_enter Try.func37, Try.ntmps37
  go_wp2_with fail
  all_goals go_ret
  all_goals refine ⟨?_, (Mods.refl _ _).alloc _⟩
  all_goals unfold checkU
  all_goals try simp only [empty_iff, bne_iff_ne, bne_eq_false_iff_eq, ne_eq] at *
  all_goals (repeat' split) <;> first | rfl | (exfalso; omega)
set_option maxRecDepth 100000 in
set_option maxHeartbeats 3200000 in
theorem rCheck12_any {W : World} (u : Upd) : Calls Try.prog 29 #[updV u] W fun e w' => e = .returned (.int .i64 (checkU u : Nat)) ∧ Mods [] W w' := by
  obtain ⟨k, key, val, d⟩ := u
  unfold updV
  have e1 := empty_eq key
  have e2 := empty_eq val
  go_enter Try.func29, Try.ntmps29
  go_wp2_with fail
  all_goals go_ret
  all_goals refine ⟨?_, (Mods.refl _ _).alloc _⟩
  all_goals unfold checkU
  all_goals try simp only [empty_iff, bne_iff_ne, bne_eq_false_iff_eq, ne_eq] at *
  all_goals (repeat' split) <;> first | rfl | (exfalso; omega)
end Go.Proofs.Ytahaecieklfhkaa
