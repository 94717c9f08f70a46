/- The walks of the document's cache (treenailref11). -/
import Derived.Test.YtahaecieklfhkaaArgsB
import Derived.Test.YtahaecieklfhkaaCache15
namespace Go.Proofs.Ytahaecieklfhkaa
open Go.RowKit Go.Maps

/-- A kept block's cells in the document's list. -/
def kcells (x : Kept) : List Value := [.int .i64 x.addr, .int .u64 x.gen, .int .u32 x.sum, .int .u8 x.kind, .string x.pay]
def kRow (R : List Kept) : List Value := R.flatMap kcells
theorem kcells_len (x : Kept) : (kcells x).length = 5 := rfl
theorem kRow_len (R : List Kept) : (kRow R).length = R.length * 5 := flat_length kcells kcells_len R
theorem kRow_at {w : World} {A : Option Addr} {R : List Kept} (h : Row w A (kRow R)) {i : Nat} {x : Kept} (hx : R[i]? = some x) : ∃ b off, A = some ⟨b, off, none⟩ ∧ w.cell? ⟨b, off + i * 5, none⟩ = some (.int .i64 x.addr) ∧ w.cell? ⟨b, off + i * 5 + 1, none⟩ = some (.int .u64 x.gen) ∧
    w.cell? ⟨b, off + i * 5 + 2, none⟩ = some (.int .u32 x.sum) ∧ w.cell? ⟨b, off + i * 5 + 3, none⟩ = some (.int .u8 x.kind) ∧ w.cell? ⟨b, off + i * 5 + 4, none⟩ = some (.string x.pay) := by
  have g := fun (j : Nat) (hj : j < 5) => flat_get kcells kcells_len hx hj
  rcases h with h | ⟨b, off, h1, h2⟩
  · have := g 0 (by omega)
    rw [show R.flatMap kcells = kRow R from rfl, h] at this
    simp [kcells] at this
  · refine ⟨b, off, h1, ?_, ?_, ?_, ?_, ?_⟩
    · exact h2 (i * 5) _ ((g 0 (by omega)).trans rfl)
    · rw [Nat.add_assoc]; exact h2 (i * 5 + 1) _ ((g 1 (by omega)).trans rfl)
    · rw [Nat.add_assoc]; exact h2 (i * 5 + 2) _ ((g 2 (by omega)).trans rfl)
    · rw [Nat.add_assoc]; exact h2 (i * 5 + 3) _ ((g 3 (by omega)).trans rfl)
    · rw [Nat.add_assoc]; exact h2 (i * 5 + 4) _ ((g 4 (by omega)).trans rfl)
theorem info_rslot : (Try.prog.info? 66).map (fun i => (i.zero, i.size, i.bytes)) = some (some (.agg #[.int .i64 0, .int .u64 0, .int .u32 0, .int .u8 0, .string ⟨#[]⟩]), 5, 40) := by kernel_rfl

set_option maxHeartbeats 400000 in
theorem rMay11_any (n : Int) (w : World) : Calls Try.prog 22 #[.int .i64 n] w fun e w' => e = .returned (.bool (decide (1 ≤ n) && decide (n ≤ 4096))) ∧ w = w' := by
  by_cases h1 : 1 ≤ n
  · go_enter Try.func22, Try.ntmps22
    go_wp2
    go_ret
    exact ⟨by simp [h1], rfl⟩
  · have hd : decide (1 ≤ n) = false := by simpa using h1
    go_enter Try.func22, Try.ntmps22
    go_wp2
    go_ret
    exact ⟨by first | rfl | (rw [hd]; rfl), rfl⟩

theorem others_snoc (a : Int) (R : List Kept) (x : Kept) : others a (R ++ [x]) = if x.addr ≠ a then others a R ++ [x] else others a R := by
  unfold others
  rw [List.filter_append]
  by_cases h : x.addr = a
  · simp [h]
  · simp [h]

set_option maxRecDepth 100000 in
set_option maxHeartbeats 1600000 in
theorem rDrop11_any {w : World} {A : Option Addr} {cap : Nat} {R : List Kept} (hr : Row w A (kRow R)) (hsm : R.length < 10000) (hcap : R.length ≤ cap) (a : Int) :
    Calls Try.prog 26 #[.slice A R.length cap, .int .i64 a] w fun e w' => ∃ u, e = .returned u ∧ w'.ownsRow w.heap.size 66 5 u (others a R).length (kRow (others a R)) ∧ Mods [] w w' := by
  obtain ⟨i0, hi0, hz0, hz1, hz2⟩ := info_parts info_rslot
  have HR := Lib.hid hr
  clear hr
  generalize hL : R.length = len at *
  have HL := Lib.hid hL
  clear hL
  go_enter Try.func26, Try.ntmps26
  go_wp2_with fail
  go_loopw [5, 6] (fun ov iv wr => ∃ k : Nat, k ≤ len ∧ iv = .int .i64 k ∧ wr.ownsRow w.heap.size 66 5 ov (others a (R.take k)).length (kRow (others a (R.take k))) ∧ Mods [] w wr) (fun _ iv _ => len - (intOf iv).toNat)
  case atStart => exact ⟨0, Nat.zero_le _, rfl, World.ownsRow_nil _ _ _ _, Mods.refl _ _⟩
  case round =>
    obtain ⟨k, hk, rfl, hown, hm⟩ := hrel
    have HO := Lib.hid hown
    clear hown
    by_cases hlt : k < len
    · obtain ⟨x, hx⟩ : ∃ x, R[k]? = some x := ⟨_, List.getElem?_eq_getElem (by rw [HL.out]; exact hlt)⟩
      obtain ⟨b, off, rfl, d0, d1, d2, d3, d4⟩ := kRow_at (HR.out.keep hm (fun _ _ => by simp)) hx
      have ht : R.take (k + 1) = R.take k ++ [x] := by rw [List.take_add_one, hx]; rfl
      have hs := others_snoc a (R.take k) x
      rw [← ht] at hs
      have HM := Lib.hid hm
      have hsz := hm.size
      have hol : (others a (R.take k)).length ≤ k := by have := others_len (R := R.take k) (a := a); simp at this; omega
      clear hm hx ht
      by_cases hxa : x.addr = a
      · rw [if_neg (by simp [hxa])] at hs
        have HS := Lib.hid hs
        clear hs
        have hne : (x.addr == a) = true := by simp [hxa]
        go_wp2_with fail
        go_roundw
        case rel => exact ⟨k + 1, by omega, by simp, by rw [HS.out]; exact HO.out, HM.out⟩
        case measure => simp [intOf]; omega
      · rw [if_pos hxa] at hs
        have HS := Lib.hid hs
        clear hs
        go_wp2_with (at_builtin; refine wpList_append_own _ rfl (.tmp 20) (.tmp 25) 61 rfl w.heap.size 66 i0 (.agg #[.int .i64 0, .int .u64 0, .int .u32 0, .int .u8 0, .string ⟨#[]⟩]) 5 40 Try.underlying61 hi0 hz0 hz1 hz2 rfl (by decide) _ _ _ rfl (HO.out.alloc _) ⟨wr.heap.size, 0, none⟩ 1 1 (kcells x) rfl rfl (fun j u hj => by rw [addr_add0]; exact (Blk.new wr 66 (kcells x)).cell hj) (by simp [kcells, Value.oneCell']) (by unfold maxLen; omega) (by omega) (by simp; omega) ?_; intro v1 w1 hown1 hg1 _)
        have hm1 : Mods [] w w1 := (HM.out.alloc _).grown hg1 (fun q hq => .inr (HO.out.lt q hq).1)
        have HO1 := Lib.hid hown1
        clear hown1 hg1
        go_roundw
        case rel =>
          refine ⟨k + 1, by omega, by go_num, ?_, hm1⟩
          have e1 : kRow (others a (R.take k) ++ [x]) = kRow (others a (R.take k)) ++ kcells x := by unfold kRow; simp
          rw [HS.out, List.length_append, List.length_singleton, e1]
          exact HO1.out
        case measure => simp [intOf]; omega
    · obtain rfl : k = len := by omega
      have e1 : R.take k = R := List.take_of_length_le (by rw [HL.out]; exact Nat.le_refl _)
      rw [e1] at HO
      have HM := Lib.hid hm
      clear hm e1
      go_wp2_with fail
      go_ret
      exact ⟨_, rfl, HO.out, HM.out⟩
end Go.Proofs.Ytahaecieklfhkaa
