/- The walks of package bits: Count, New, List, Copy. -/
import Derived.Test.YtahaecieklfhkaaDoorBits3
import Derived.Deep.OwnRows
import Derived.OwnWalk
namespace Go.Proofs.YtahaecieklfhkaaDoor
open Go.RowKit

theorem ownsRow_mods {w w1 : World} {base : Nat} {e : TypeId} {size : Nat} {v : Value} {n : Nat} {xs : List Value} (h : w.ownsRow base e size v n xs) {L : List Nat} (hm : Mods L w w1) (hn : ∀ k, v.ownBlock = some k → k ∉ L) : w1.ownsRow base e size v n xs := by
  obtain ⟨h1, h2⟩ := h
  refine ⟨h1, ?_⟩
  rcases h2 with h2 | ⟨g, cap, cur, hv, hg, hh, r⟩
  · exact Or.inl h2
  · subst hv
    exact Or.inr ⟨g, cap, cur, rfl, hg, hm.keep hh (hn g rfl), r⟩

set_option maxHeartbeats 400000 in
theorem count_nil (w : World) :
    Calls Tryd.prog 16 #[.pointer none] w fun e w' => e = .returned (.int .i64 0) ∧ w = w' := by
  go_enter Tryd.func16, Tryd.ntmps16
  go_wp2
  go_ret
  exact ⟨rfl, rfl⟩

set_option maxHeartbeats 400000 in
theorem count_any {w : World} {b c : Nat} {l : List Bool} (h : IsSet w b c l) :
    Calls Tryd.prog 16 #[.pointer (some ⟨b, 0, none⟩)] w fun e w' => e = .returned (.int .i64 (l.count true : Nat)) ∧ w = w' := by
  obtain ⟨ws, rest, cap, h1, h2, h3, h4, h5, h6, h7, h8⟩ := h
  have a1 := h7.cell (i := 1) rfl
  have hlen2 : ws.length ≤ 64 := by have := h1.len; omega
  have HB := Lib.hid h8
  clear h7 h8
  have HC := Lib.hid (rep_count h1)
  go_enter Tryd.func16, Tryd.ntmps16
  go_wp2
  go_loop [3, 13] (fun nv iv => ∃ j : Nat, j ≤ ws.length ∧ iv = .int .i64 j ∧ nv = .int .i64 (sumPop ws j : Nat)) (fun _ iv => ws.length - (intOf iv).toNat)
  case atStart => exact ⟨0, Nat.zero_le _, rfl, by simp [sumPop]⟩
  case round =>
    obtain ⟨j, hj, rfl, rfl⟩ := hrel
    have hsl := sumPop_le ws j
    by_cases hlt : j < ws.length
    · have hcell := word_cell HB.out hlt
      have hx := h1.lt j
      rw [show (2 : Nat) ^ 64 = 18446744073709551616 from rfl] at hx
      have hpl := popc_le (wd ws j)
      have HS := Lib.hid (sumPop_succ ws j)
      go_wp2_with (first
        | (go_at_call 46; refine (pop_any _ hx _).mono ?_; rintro e w' ⟨rfl, rfl⟩))
      go_round
      case rel => exact ⟨j + 1, by omega, by go_num, by rw [HS.out]; go_num⟩
      case measure => simp [intOf]; omega
    · obtain rfl : j = ws.length := by omega
      go_wp2
      go_ret
      exact ⟨by rw [← HC.out]; rfl, rfl⟩

theorem info_uint : (Tryd.prog.info? 79).map (fun i => (i.zero, i.size, i.bytes)) = some (some (.int .u64 0), 1, 8) := by kernel_rfl

set_option maxHeartbeats 400000 in
theorem new_bad (w : World) (n : Int) (h : n < 1 ∨ 4096 < n) :
    Calls Tryd.prog 11 #[.int .i64 n] w fun e w' => e = .returned (.tuple #[.pointer none, .int .i64 2]) ∧ w = w' := by
  by_cases h1 : n < 1
  · go_enter Tryd.func11, Tryd.ntmps11
    go_wp2
    go_ret2
    exact ⟨rfl, rfl⟩
  · have h2 : 4096 < n := by omega
    have hd : decide (n < 1) = false := by simpa using h1
    go_enter Tryd.func11, Tryd.ntmps11
    go_wp2
    go_ret2
    exact ⟨rfl, rfl⟩

set_option maxHeartbeats 400000 in
theorem new_at (w : World) (n m : Nat) (z : Int) (h0 : 1 ≤ n) (h1 : n ≤ 4096) (hz : z = (m : Int)) (hm : z = ((n : Int) + 64 - 1) / 64) (hm2 : m ≤ 64) :
    Calls Tryd.prog 11 #[.int .i64 n] w fun e w' => e = .returned (.tuple #[.pointer (some ⟨w.heap.size + 1, 0, none⟩), .int .i64 0]) ∧
      w' = (w.alloc (.cells (madeCells #[.int .u64 0] m) 79)).alloc (.cells #[.int .i64 n, .slice (some ⟨w.heap.size, 0, none⟩) m m] 78) := by
  have hmk := run_make_row' (P := Tryd.prog) 76 79 (.int .u64 0) 8 Tryd.underlying76 info_uint rfl .i64 .i64 m (by omega) (by omega)
  rw [← hz, hm] at hmk
  have hd : decide ((n : Int) < 1) = false := by simp; omega
  clear hz hm
  go_enter Tryd.func11, Tryd.ntmps11
  go_wp2
  go_ret2
  exact ⟨rfl, rfl⟩
theorem new_any (w : World) (n : Nat) (h0 : 1 ≤ n) (h1 : n ≤ 4096) :
    Calls Tryd.prog 11 #[.int .i64 n] w fun e w' => e = .returned (.tuple #[.pointer (some ⟨w.heap.size + 1, 0, none⟩), .int .i64 0]) ∧
      Mods [] w w' ∧ w'.heap.size = w.heap.size + 2 ∧ IsSet w' (w.heap.size + 1) w.heap.size (List.replicate n false) := by
  refine (new_at w n ((n + 63) / 64) _ h0 h1 rfl (by omega) (by omega)).mono fun e w' ⟨he, hw⟩ => ⟨he, ?_, ?_, ?_⟩
  · rw [hw]; exact ((Mods.refl _ _).alloc _).alloc _
  · rw [hw]; simp
  · rw [hw]
    refine ⟨List.replicate ((n + 63) / 64) 0, [], (n + 63) / 64, rep_new n, by simpa using h0, by simpa using h1, by omega, by simp, by unfold maxLen; omega, ?_, ?_⟩
    · have := Blk.new (w.alloc (.cells (madeCells #[.int .u64 0] ((n + 63) / 64)) 79)) 78 [.int .i64 n, .slice (some ⟨w.heap.size, 0, none⟩) ((n + 63) / 64) ((n + 63) / 64)]
      simpa using this
    · apply Blk.alloc
      have := Blk.new w 79 (madeCells #[.int .u64 0] ((n + 63) / 64)).toList
      rw [toList_madeCells_one] at this
      rw [List.append_nil, List.map_replicate]
      have e : (madeCells #[.int .u64 0] ((n + 63) / 64)) = (List.replicate ((n + 63) / 64) (Value.int .u64 0)).toArray := by
        rw [← toList_madeCells_one]
      rw [e]
      exact this
end Go.Proofs.YtahaecieklfhkaaDoor
