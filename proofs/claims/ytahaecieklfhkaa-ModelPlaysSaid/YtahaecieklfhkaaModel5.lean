/- The model's Scan, Equal, Copy; slices.Equal of entries. -/
import Derived.Test.YtahaecieklfhkaaModel4
import Derived.Laws.StructEq
import Derived.Deep.Slices
namespace Go.Proofs.Ytahaecieklfhkaa
open Go.RowKit

def ecells (x : ByteArray × ByteArray) : List Value := [.string x.1, .string x.2]
def eRow (E : Ents) : List Value := E.flatMap ecells
theorem ecells_len (x : ByteArray × ByteArray) : (ecells x).length = 2 := rfl
theorem eRow_len (E : Ents) : (eRow E).length = E.length * 2 := flat_length ecells ecells_len E
theorem eRow_at {w : World} {A : Option Addr} {E : Ents} (h : Row w A (eRow E)) {i : Nat} {x : ByteArray × ByteArray} (hx : E[i]? = some x) : ∃ b off, A = some ⟨b, off, none⟩ ∧ w.cell? ⟨b, off + i * 2, none⟩ = some (.string x.1) ∧ w.cell? ⟨b, off + i * 2 + 1, none⟩ = some (.string x.2) := by
  have g := fun (j : Nat) (hj : j < 2) => flat_get ecells ecells_len hx hj
  rcases h with h | ⟨b, off, h1, h2⟩
  · have := g 0 (by omega)
    rw [show E.flatMap ecells = eRow E from rfl, h] at this
    simp [ecells] at this
  · refine ⟨b, off, h1, ?_, ?_⟩
    · exact h2 (i * 2) _ ((g 0 (by omega)).trans rfl)
    · rw [Nat.add_assoc]; exact h2 (i * 2 + 1) _ ((g 1 (by omega)).trans rfl)
theorem info_entry : (Try.prog.info? 42).map (fun i => (i.zero, i.size, i.bytes)) = some (some (.agg #[.string ⟨#[]⟩, .string ⟨#[]⟩]), 2, 32) := by kernel_rfl
theorem info_entry16 : (Try.prog.info? 88).map (fun i => (i.zero, i.size, i.bytes)) = some (some (.agg #[.string ⟨#[]⟩, .string ⟨#[]⟩]), 2, 32) := by kernel_rfl
theorem neq_entry (a b c d : ByteArray) (w : World) : (binOp .neq 42 (.agg #[.string a, .string b]) (.agg #[.string c, .string d])).run Try.prog w = .ok (.bool (!decide ((a, b) = (c, d)))) w := by
  have hS : Try.prog.underlying 42 = some (.struct (Try.prog.fieldsOf 42)) := by kernel_rfl
  have hp : Try.prog.stoodInHeld 42 = false := by kernel_rfl
  have u3 := Try.underlying9
  have a3 := Try.isAgg9
  have z3 := Try.sizeOf9
  rw [run_neq_struct, show (10000 : Nat) = 9999 + 1 from rfl, run_equalIn_agg w 9999 42 _ _ hS hp]
  simp only [Program.fieldsOf, Try.underlying42]
  go_simp
  have e1 : ∀ x y : ByteArray, (x.toList = y.toList) ↔ (x = y) := fun x y => ⟨toList_inj, fun e => by rw [e]⟩
  by_cases h1 : a = c <;> by_cases h2 : b = d <;> simp [h1, h2, e1]
set_option maxRecDepth 100000 in
set_option maxHeartbeats 1600000 in
theorem eEqual_any {w : World} {A B : Option Addr} {c d : Nat} {L M : Ents} (hA : Row w A (eRow L)) (hB : Row w B (eRow M)) (hl : L.length < 1000000) (hm : M.length < 1000000) :
    Calls Try.prog 42 #[.slice A L.length c, .slice B M.length d] w fun e w' => e = .returned (.bool (decide (L = M))) ∧ Mods [] w w' := by
  have HA := Lib.hid hA
  have HB := Lib.hid hB
  clear hA hB
  generalize hLl : L.length = n at *
  generalize hMl : M.length = m at *
  have HL := Lib.hid (And.intro hLl hMl)
  clear hLl hMl
  by_cases hnm : n = m
  · subst hnm
    go_enter Try.func42, Try.ntmps42
    go_wp2_with fail
    go_loopw [5, 13] (fun _ iv wr => ∃ k : Nat, k ≤ n ∧ iv = .int .i64 k ∧ L.take k = M.take k ∧ ∃ q, wr = w.drewN q) (fun _ iv _ => n - (intOf iv).toNat)
    case atStart => exact ⟨0, Nat.zero_le _, rfl, rfl, 0, rfl⟩
    case round =>
      obtain ⟨k, hk, rfl, heq, q, rfl⟩ := hrel
      by_cases hkn : k < n
      · obtain ⟨x, hx⟩ : ∃ x, L[k]? = some x := ⟨_, List.getElem?_eq_getElem (by rw [HL.out.1]; exact hkn)⟩
        obtain ⟨y, hy⟩ : ∃ y, M[k]? = some y := ⟨_, List.getElem?_eq_getElem (by rw [HL.out.2]; exact hkn)⟩
        obtain ⟨b1, o1, rfl, c0, c1⟩ := eRow_at HA.out hx
        obtain ⟨b2, o2, rfl, d0, d1⟩ := eRow_at HB.out hy
        have hne := fun W => neq_entry x.1 x.2 y.1 y.2 W
        have HX := Lib.hid (And.intro hx (And.intro hy heq))
        clear hx hy heq
        obtain ⟨w1, hw1⟩ : ∃ w1, w.drewN q = w1 := ⟨_, rfl⟩
        have c2 : w1.cell? ⟨b1, o1 + k * 2, none⟩ = some (.string x.1) := by rw [← hw1]; exact c0
        have c3 : w1.cell? ⟨b1, o1 + k * 2 + 1, none⟩ = some (.string x.2) := by rw [← hw1]; exact c1
        have d2 : w1.cell? ⟨b2, o2 + k * 2, none⟩ = some (.string y.1) := by rw [← hw1]; exact d0
        have d3 : w1.cell? ⟨b2, o2 + k * 2 + 1, none⟩ = some (.string y.2) := by rw [← hw1]; exact d1
        rw [hw1]
        have HW := Lib.hid hw1
        clear hw1 c0 c1 d0 d1
        by_cases hxy : x = y
        · have hb : decide ((x.1, x.2) = (y.1, y.2)) = true := by rw [hxy]; simp
          simp only [hb, Bool.not_true] at hne
          go_wp2
          go_quiet (fail)
          go_wp2_with fail
          go_roundw
          case rel =>
            refine ⟨k + 1, by omega, by go_num, ?_, q + nq, by rw [← HW.out, World.drewN_drewN]⟩
            rw [List.take_add_one, List.take_add_one, HX.out.1, HX.out.2.1, HX.out.2.2, hxy]
          case measure => simp [intOf]; omega
        · have hb : decide ((x.1, x.2) = (y.1, y.2)) = false := by
            rw [decide_eq_false_iff_not]
            intro e
            injection e with e1 e2
            exact hxy (Prod.ext e1 e2)
          have hLM : decide (L = M) = false := by
            rw [decide_eq_false_iff_not]
            intro e
            have h1 := HX.out.1
            have h2 := HX.out.2.1
            rw [e, h2] at h1
            exact hxy (Option.some.inj h1).symm
          have HLM := Lib.hid hLM
          simp only [hb, Bool.not_false] at hne
          clear hb hLM
          go_wp2
          go_quiet (fail)
          go_wp2_with fail
          go_ret
          exact ⟨by rw [HLM.out]; rfl, by rw [← HW.out]; exact ((Mods.refl _ _).drewN q).drewN nq⟩
      · obtain rfl : k = n := by omega
        rw [List.take_of_length_le (Nat.le_of_eq HL.out.1), List.take_of_length_le (Nat.le_of_eq HL.out.2)] at heq
        have hLM : decide (L = M) = true := by rw [heq]; simp
        have HLM := Lib.hid hLM
        clear hLM
        go_wp2_with fail
        go_ret
        exact ⟨by rw [HLM.out]; rfl, (Mods.refl _ _).drewN q⟩
  · have hnmi : ¬ (n : Int) = (m : Int) := by omega
    have hLM : decide (L = M) = false := by
      rw [decide_eq_false_iff_not]
      intro e
      exact hnm (by rw [← HL.out.1, ← HL.out.2, e])
    go_enter Try.func42, Try.ntmps42
    go_wp2_with fail
    go_ret
    exact ⟨by rw [hLM]; rfl, Mods.refl _ _⟩
end Go.Proofs.Ytahaecieklfhkaa
