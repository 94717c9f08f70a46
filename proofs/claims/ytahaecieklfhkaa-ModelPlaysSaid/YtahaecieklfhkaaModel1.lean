/- Numbers as bytes (lend) and numbers as values (msg): what they give at a width of eight bytes. -/
import Derived.Test.YtahaecieklfhkaaCache11
import Derived.Test.YtahaecieklfhkaaPModel
import Derived.Test.YtahaecieklfhkaaArgsB
import Derived.OwnWalk
import Derived.Deep.AppendLies
import Derived.Deep.RegionLaw
namespace Go.Proofs.Ytahaecieklfhkaa
open Go.RowKit

theorem info_u64 : (Try.prog.info? 25).map (fun i => (i.zero, i.size, i.bytes)) = some (some (.int .u64 0), 1, 8) := by kernel_rfl
theorem info_u8 : (Try.prog.info? 5).map (fun i => (i.zero, i.size, i.bytes)) = some (some (.int .u8 0), 1, 1) := by kernel_rfl
theorem lMay8 (W : World) : Calls Try.prog 76 #[.int .i64 8] W fun e w' => e = .returned (.bool true) ∧ W = w' := by
  go_enter Try.func76, Try.ntmps76
  go_wp2
  go_ret
  exact ⟨rfl, rfl⟩
set_option maxHeartbeats 800000 in
theorem lSize8 {W : World} {b c : Nat} (h : W.cell? ⟨b, 0, none⟩ = some (.int .i64 8)) : Calls Try.prog 68 #[.slice (some ⟨b, 0, none⟩) 1 c] W fun e w' => e = .returned (.int .i64 8) ∧ W = w' := by
  go_enter Try.func68, Try.ntmps68
  go_wp2_with fail
  go_loopw [3, 8] (fun nv iv wr => W = wr ∧ ((nv = .int .i64 0 ∧ iv = .int .i64 0) ∨ (nv = .int .i64 8 ∧ iv = .int .i64 1))) (fun _ iv _ => 1 - (intOf iv).toNat)
  case atStart => simp
  case round =>
    obtain ⟨rfl, h1⟩ := hrel
    rcases h1 with ⟨rfl, rfl⟩ | ⟨rfl, rfl⟩
    · go_wp2_with (go_at_call 76; refine (lMay8 _).mono ?_; rintro e w' ⟨rfl, rfl⟩)
      go_roundw
      case rel => simp
      case measure => simp [intOf]
    · go_wp2_with fail
      go_ret
      exact ⟨rfl, rfl⟩
theorem lRight8 {W : World} {b c : Nat} (h : W.cell? ⟨b, 0, none⟩ = some (.int .i64 8)) : Calls Try.prog 67 #[.slice (some ⟨b, 0, none⟩) 1 c] W fun e w' => e = .returned (.bool true) ∧ W = w' := by
  go_enter Try.func67, Try.ntmps67
  go_wp2_with (go_at_call 68; refine (lSize8 h).mono ?_; rintro e w' ⟨rfl, rfl⟩)
  go_ret
  exact ⟨rfl, rfl⟩
set_option maxHeartbeats 1600000 in
theorem lRead_short {W : World} {b c : Nat} (h : W.cell? ⟨b, 0, none⟩ = some (.int .i64 8)) (s : ByteArray) (hs : s.size < 8) :
    Calls Try.prog 52 #[.slice (some ⟨b, 0, none⟩) 1 c, .string s] W fun e w' => e = .returned (.tuple #[.slice none 0 0, .string ⟨#[]⟩, .bool false]) ∧ W = w' := by
  go_enter Try.func52, Try.ntmps52
  go_wp2_with (first | (go_at_call 67; refine (lRight8 h).mono ?_; rintro e w' ⟨rfl, rfl⟩) | (go_at_call 68; refine (lSize8 h).mono ?_; rintro e w' ⟨rfl, rfl⟩))
  go_ret3
  exact ⟨rfl, rfl⟩
set_option maxRecDepth 100000 in
set_option maxHeartbeats 1600000 in
theorem lRead_any {W : World} {b c : Nat} (h : W.cell? ⟨b, 0, none⟩ = some (.int .i64 8)) (s : ByteArray) (hs : 8 ≤ s.size) (hm : s.size ≤ maxLen) :
    Calls Try.prog 52 #[.slice (some ⟨b, 0, none⟩) 1 c, .string s] W fun e w' => ∃ u rest, e = .returned (.tuple #[u, .string rest, .bool true]) ∧ w'.ownsRow W.heap.size 25 1 u 1 [.int .u64 (leNum (s.toList.take 8) : Nat)] ∧ Mods [] W w' ∧ rest.size = s.size - 8 := by
  obtain ⟨i0, hi0, hz0, hz1, hz2⟩ := info_parts info_u64
  unfold maxLen at hm
  go_enter Try.func52, Try.ntmps52
  go_wp2_with (first | (go_at_call 67; refine (lRight8 h).mono ?_; rintro e w' ⟨rfl, rfl⟩) | (go_at_call 68; refine (lSize8 h).mono ?_; rintro e w' ⟨rfl, rfl⟩))
  have hsl : s.toList.length = s.size := by rw [Lib.toList_data]; exact Array.length_toList
  go_loopw [1, 7, 24] (fun sv ov iv wr => (iv = .int .i64 0 ∧ sv = .string s ∧ ov = .slice none 0 0 ∧ W = wr) ∨ (iv = .int .i64 1 ∧ ∃ rest, sv = .string rest ∧ wr.ownsRow W.heap.size 25 1 ov 1 [.int .u64 (leNum (s.toList.take 8) : Nat)] ∧ Mods [] W wr ∧ rest.size = s.size - 8)) (fun _ _ iv _ => 1 - (intOf iv).toNat)
  case atStart => exact .inl ⟨rfl, rfl, rfl, rfl⟩
  case round =>
    rcases hrel with ⟨rfl, rfl, rfl, rfl⟩ | ⟨rfl, rest, rfl, hown, hm, hrs⟩
    · go_wp2_with fail
      go_loopw [10, 29] (fun nv jv wr => ∃ j : Nat, j ≤ 8 ∧ jv = .int .i64 j ∧ nv = .int .u64 (leNum (s.toList.take j) : Nat) ∧ W = wr) (fun _ jv _ => 8 - (intOf jv).toNat)
      case atStart => exact ⟨0, by omega, rfl, rfl, rfl⟩
      case round =>
        obtain ⟨j, hj, rfl, rfl, rfl⟩ := hrel
        by_cases hj8 : j < 8
        · go_wp2_with fail
          go_roundw
          case rel =>
            refine ⟨j + 1, by omega, by simp, ?_, by simp⟩
            rw [take_byte (by omega)]
            exact congrArg _ (le_step _ _ j hj8 (by rw [List.length_take, hsl]; omega))
          case measure => simp [intOf]; omega
        · obtain rfl : j = 8 := by omega
          go_wp2_with fail
          go_region_law (refine step_append_lies _ (by rfl) (.tmp 42) (.tmp 44) 126 (by rfl) W.heap.size 25 i0 (.int .u64 0) 1 8 Try.underlying126 hi0 hz0 hz1 hz2 (by rfl) (by decide) (.slice none 0 0) 0 [] (by rfl) (World.ownsRow_nil _ _ _ _) ⟨W.heap.size, 0, none⟩ 1 1 [.int .u64 (leNum (s.toList.take 8) : Nat)] (by rfl) (by rfl) (cell_one_new _ _ _) (by simp [Value.oneCell']) (by omega) (by unfold maxLen; omega) (by omega) (by simp) (W.heap.size + 1) (by simp) ?_; intro g cap w1 hown hgrow hat hlt)
          have hm1 : Mods [] W w1 := Mods.grown (by repeat (first | exact Mods.refl _ _ | apply Mods.drew | apply Mods.drewN | apply Mods.alloc)) hgrow (fun q hq => by cases hq)
          have HO := Lib.hid hown
          clear hown hgrow
          go_wp2_with fail
          go_roundw
          case rel => exact .inr ⟨rfl, _, rfl, HO.out, hm1, by simp⟩
          case measure => simp [intOf]
    · have HO := Lib.hid hown
      clear hown
      go_wp2_with fail
      go_ret3
      exact ⟨_, rest, rfl, HO.out, hm, hrs⟩
/-- What eight bytes are as a number; other texts are none. -/
def numOf (s : ByteArray) : Option Nat := if s.size = 8 then some (leNum s.toList) else none
set_option maxHeartbeats 800000 in
theorem msgNumber_any {W : World} (s : ByteArray) (hm : s.size ≤ maxLen) :
    Calls Try.prog 38 #[.string s] W fun e w' => e = .returned (.tuple #[.int .u64 ((numOf s).getD 0 : Nat), .bool (numOf s).isSome]) ∧ Mods [] W w' := by
  obtain ⟨w1, hw1⟩ : ∃ w1, W.alloc (.cells #[.int .i64 8] 3) = w1 := ⟨_, rfl⟩
  have hm1 : Mods [] W w1 := by rw [← hw1]; exact (Mods.refl _ _).alloc _
  have hc1 : w1.cell? ⟨W.heap.size, 0, none⟩ = some (.int .i64 8) := by rw [← hw1]; exact (Blk.new W 3 [.int .i64 8]).cell (i := 0) rfl
  by_cases hs : s.size < 8
  · have hr := Lib.hid (lRead_short (c := 1) hc1 s hs)
    have hn : numOf s = none := by unfold numOf; rw [if_neg (by omega)]
    rw [hn]
    go_enter Try.func38, Try.ntmps38
    go_wp2_with fail
    refine hr.out.mono ?_
    rintro x w2 ⟨rfl, rfl⟩
    go_wp2_with fail
    go_ret2
    exact ⟨rfl, hm1⟩
  · have hr := Lib.hid (lRead_any (c := 1) hc1 s (by omega) hm)
    go_enter Try.func38, Try.ntmps38
    go_wp2_with fail
    refine hr.out.mono ?_
    rintro x w2 ⟨u, rest, rfl, hown, hm2, hrs⟩
    obtain ⟨B, cap, rfl, hrow, _⟩ := row_of_owns hown
    obtain ⟨bb, off, rfl, hcell⟩ := hrow.at (i := 0) rfl
    rw [Nat.add_zero] at hcell
    clear hown hrow hr
    by_cases h8 : s.size = 8
    · have hn : numOf s = some (leNum s.toList) := by unfold numOf; rw [if_pos h8]
      have ht : s.toList.take 8 = s.toList := List.take_of_length_le (by rw [Lib.toList_data, Array.length_toList]; exact Nat.le_of_eq h8)
      rw [ht] at hcell
      have hre : rest = ⟨#[]⟩ := by
        rw [h8] at hrs
        cases rest with
        | mk d => rw [show d = #[] from Array.eq_empty_of_size_eq_zero hrs]
      subst hre
      go_wp2_with fail
      go_ret2
      exact ⟨by rw [hn]; rfl, hm1.trans hm2 (by simp)⟩
    · have hn : numOf s = none := by unfold numOf; rw [if_neg h8]
      have hre := empty_not (s := rest) (by omega)
      go_wp2_with fail
      go_ret2
      exact ⟨by rw [hn]; rfl, hm1.trans hm2 (by simp)⟩

theorem run_make8 (W : World) : (Instr.makeSlice 44 (.int .i64 0) (.int .i64 8)).run Try.prog W = .ok (.slice (some ⟨W.heap.size, 0, none⟩) 0 8) (W.alloc (.cells #[.int .u8 0, .int .u8 0, .int .u8 0, .int .u8 0, .int .u8 0, .int .u8 0, .int .u8 0, .int .u8 0] 5)) := by kernel_rfl
set_option maxRecDepth 100000 in
set_option maxHeartbeats 1600000 in
theorem lWrite8 {W : World} {b b2 c c2 : Nat} {n : Nat} (hn : n < 18446744073709551616) (h : W.cell? ⟨b, 0, none⟩ = some (.int .i64 8)) (h2 : W.cell? ⟨b2, 0, none⟩ = some (.int .u64 n)) :
    Calls Try.prog 69 #[.slice (some ⟨b, 0, none⟩) 1 c, .slice (some ⟨b2, 0, none⟩) 1 c2] W fun e w' => e = .returned (.tuple #[.string (num8 n), .bool true]) ∧ Mods [] W w' := by
  obtain ⟨i0, hi0, hz0, hz1, hz2⟩ := info_parts info_u8
  have hmk := run_make8 W
  go_enter Try.func69, Try.ntmps69
  go_wp2_with (first | (go_at_call 67; refine (lRight8 h).mono ?_; rintro e w' ⟨rfl, rfl⟩) | (go_at_call 68; refine (lSize8 h).mono ?_; rintro e w' ⟨rfl, rfl⟩))
  go_loopw [6, 25] (fun ov iv wr => (iv = .int .i64 0 ∧ wr.ownsRow W.heap.size 5 1 ov 0 [] ∧ Mods [] W wr) ∨ (iv = .int .i64 1 ∧ wr.ownsRow W.heap.size 5 1 ov 8 ((leBytes 8 n).map fun x => Value.int .u8 (x.toNat : Nat)) ∧ Mods [] W wr)) (fun _ iv _ => 1 - (intOf iv).toNat)
  case atStart => exact .inl ⟨rfl, World.ownsRow_made _ _ _ (Nat.le_refl _) (by decide) (by rfl), (Mods.refl _ _).alloc _⟩
  case round =>
    rcases hrel with ⟨rfl, hown, hm⟩ | ⟨rfl, hown, hm⟩
    · have HO := Lib.hid hown
      have c1 := (hm.cell (p := ⟨b, 0, none⟩) (World.block_lt_of_cell? W _ h) (by simp)).trans h
      have c2 := (hm.cell (p := ⟨b2, 0, none⟩) (World.block_lt_of_cell? W _ h2) (by simp)).trans h2
      have HM := Lib.hid hm
      clear hown hm
      go_wp2_with fail
      go_loopw [6, 9, 35] (fun ov nv jv wr => ∃ j : Nat, j ≤ 8 ∧ jv = .int .i64 j ∧ nv = .int .u64 (n / 256 ^ j : Nat) ∧ wr.ownsRow W.heap.size 5 1 ov j ((leBytes j n).map fun x => Value.int .u8 (x.toNat : Nat)) ∧ Mods [] W wr) (fun _ _ jv _ => 8 - (intOf jv).toNat)
      case atStart => exact ⟨0, by omega, rfl, by simp, HO.out, HM.out⟩
      case round =>
        obtain ⟨j, hj, rfl, rfl, hown, hm⟩ := hrel
        by_cases hj8 : j < 8
        · have HO := Lib.hid hown
          have HM := Lib.hid hm
          clear hown
          obtain ⟨y, hy⟩ : ∃ y, n / 256 ^ j = y := ⟨_, rfl⟩
          have hyl : y < 18446744073709551616 := by rw [← hy]; exact Nat.lt_of_le_of_lt (Nat.div_le_self _ _) hn
          rw [hy]
          go_wp2_with (at_builtin; refine wpList_append_own _ rfl (.tmp 37) (.tmp 40) 44 rfl W.heap.size 5 i0 (.int .u8 0) 1 1 Try.underlying44 hi0 hz0 hz1 hz2 rfl (by decide) _ _ _ rfl (HO.out.alloc _) ⟨wr.heap.size, 0, none⟩ 1 1 [.int .u8 ((y : Int) % 256)] rfl rfl (cell_one_new _ _ _) (by simp [Value.oneCell']) (by unfold maxLen; omega) (by omega) (by simp; have := HM.out.size; omega) ?_; intro v1 w1 hown1 hg1 _)
          have hm1 : Mods [] W w1 := (HM.out.alloc _).grown hg1 (fun q hq => .inr (HO.out.lt q hq).1)
          have HO1 := Lib.hid hown1
          clear hown1 hg1
          go_roundw
          case rel =>
            refine ⟨j + 1, by omega, by simp, ?_, ?_, hm1⟩
            · rw [Nat.pow_succ, ← Nat.div_div_eq_div_mul, hy]; rfl
            · rw [leBytes_snoc, List.map_append, hy]
              have e1 : (UInt8.ofNat (y % 256)).toNat = y % 256 := by simp
              rw [show (List.map (fun x : UInt8 => Value.int .u8 (x.toNat : Nat)) [UInt8.ofNat (y % 256)]) = [.int .u8 ((y : Int) % 256)] by rw [List.map_cons, List.map_nil, e1]; simp]
              exact HO1.out
          case measure => simp [intOf]; omega
        · obtain rfl : j = 8 := by omega
          have hz : n / 256 ^ 8 = 0 := Nat.div_eq_of_lt (by omega)
          rw [hz]
          have HO := Lib.hid hown
          clear hown
          go_wp2_with fail
          go_roundw
          case rel => exact .inr ⟨rfl, HO.out, hm⟩
          case measure => simp [intOf]
    · have HO := Lib.hid hown
      obtain ⟨g, cap, rfl⟩ : ∃ g cap, u6 = .slice (some ⟨g, 0, none⟩) 8 cap := by
        rcases hown.2 with ⟨_, h0⟩ | ⟨g, cap, cur, rfl, _⟩
        · omega
        · exact ⟨g, cap, rfl⟩
      have hcv := run_convert_bytes_back (P := Try.prog) wr 44 9 5 ⟨g, 0, none⟩ cap (leBytes 8 n) Try.underlying44 Try.underlying5 Try.underlying9 (fun j hj => HO.out.cells (g := g) rfl j _ (by rw [List.getElem?_map, List.getElem?_eq_getElem hj]; rfl))
      rw [leBytes_length] at hcv
      clear hown
      go_wp2_with fail
      go_ret2
      exact ⟨rfl, hm⟩
set_option maxHeartbeats 800000 in
theorem msgValue_any {W : World} {n : Nat} (hn : n < 18446744073709551616) : Calls Try.prog 53 #[.int .u64 n] W fun e w' => e = .returned (.string (num8 n)) ∧ Mods [] W w' := by
  obtain ⟨w1, hw1⟩ : ∃ w1, W.alloc (.cells #[.int .i64 8] 3) = w1 := ⟨_, rfl⟩
  have hm1 : Mods [] W w1 := by rw [← hw1]; exact (Mods.refl _ _).alloc _
  have hc1 : w1.cell? ⟨W.heap.size, 0, none⟩ = some (.int .i64 8) := by rw [← hw1]; exact (Blk.new W 3 [.int .i64 8]).cell (i := 0) rfl
  obtain ⟨w2, hw2⟩ : ∃ w2, w1.alloc (.cells #[.int .u64 n] 25) = w2 := ⟨_, rfl⟩
  have hm2 : Mods [] w1 w2 := by rw [← hw2]; exact (Mods.refl _ _).alloc _
  have hc2 : w2.cell? ⟨w1.heap.size, 0, none⟩ = some (.int .u64 n) := by rw [← hw2]; exact (Blk.new w1 25 [.int .u64 n]).cell (i := 0) rfl
  have hc3 := (hm2.cell (p := ⟨W.heap.size, 0, none⟩) (World.block_lt_of_cell? w1 _ hc1) (by simp)).trans hc1
  have hr := Lib.hid (lWrite8 (c := 1) (c2 := 1) hn hc3 hc2)
  clear hc2 hc3
  go_enter Try.func53, Try.ntmps53
  go_wp2_with fail
  refine hr.out.mono ?_
  rintro x w3 ⟨rfl, hm3⟩
  go_wp2_with fail
  go_ret
  exact ⟨rfl, (hm1.trans hm2 (by simp)).trans hm3 (by simp)⟩
/-- The document's number of bytes, and bytes of a number. -/
theorem leNum_cons_drop {s : ByteArray} {i : Nat} (hi : i < s.size) : leNum (s.toList.drop i) = s[i].toNat + 256 * leNum (s.toList.drop (i + 1)) := by
  have h1 : s.toList = s.data.toList := Lib.toList_data s
  have h2 : i < s.data.toList.length := by rw [Array.length_toList]; exact hi
  rw [h1, List.drop_eq_getElem_cons h2]
  rfl
set_option maxHeartbeats 800000 in
theorem rGet01_any {W : World} (s : ByteArray) (h8 : s.size ≤ 8) : Calls Try.prog 65 #[.string s] W fun e w' => e = .returned (.int .u64 (leNum s.toList : Nat)) ∧ W = w' := by
  have hsl : s.toList.length = s.size := by rw [Lib.toList_data]; exact Array.length_toList
  go_enter Try.func65, Try.ntmps65
  go_wp2_with fail
  go_loopw [3, 4] (fun nv iv wr => ∃ i : Nat, i ≤ s.size ∧ iv = .int .i64 ((i : Int) - 1) ∧ nv = .int .u64 (leNum (s.toList.drop i) : Nat) ∧ W = wr) (fun _ iv _ => (intOf iv + 1).toNat)
  case atStart => exact ⟨s.size, Nat.le_refl _, rfl, by rw [List.drop_of_length_le (by omega)]; rfl, rfl⟩
  case round =>
    obtain ⟨i, hi, rfl, rfl, rfl⟩ := hrel
    by_cases hi0 : 0 < i
    · obtain ⟨k, rfl⟩ : ∃ k, i = k + 1 := ⟨i - 1, by omega⟩
      have hk1 : ((k + 1 : Nat) : Int) - 1 = (k : Int) := by omega
      rw [hk1]
      have hks : k < s.size := by omega
      have hlt := leNum_lt (s.toList.drop (k + 1))
      have hll : (s.toList.drop (k + 1)).length ≤ 7 := by rw [List.length_drop, hsl]; omega
      have hlt2 : leNum (s.toList.drop (k + 1)) < 256 ^ 7 := Nat.lt_of_lt_of_le hlt (Nat.pow_le_pow_right (by omega) hll)
      have hbt := s[k].toNat_lt
      have hcons := leNum_cons_drop hks
      generalize leNum (s.toList.drop (k + 1)) = x at *
      go_wp2_with fail
      go_roundw
      case rel =>
        refine ⟨k, by omega, by simp, ?_, by simp⟩
        rw [hcons]
        exact congrArg _ (by omega)
      case measure => simp [intOf]
    · obtain rfl : i = 0 := by omega
      go_wp2_with fail
      go_ret
      exact ⟨by simp, rfl⟩
theorem num8_bytes (n : Nat) (j : Nat) : (⟨(leBytes j n).toArray⟩ : ByteArray) ++ ⟨#[UInt8.ofNat (n / 256 ^ j % 256)]⟩ = ⟨(leBytes (j + 1) n).toArray⟩ := by
  rw [leBytes_snoc]
  apply ByteArray.ext
  simp
theorem run_byte_string (W : World) (x : Nat) (hx : x < 256) : (convert 44 9 (.slice (some ⟨W.heap.size, 0, none⟩) 1 1)).run Try.prog (W.alloc (.cells #[.int .u8 (x : Nat)] 5)) = .ok (.string ⟨#[UInt8.ofNat x]⟩) (W.alloc (.cells #[.int .u8 (x : Nat)] 5)) := by
  have := run_convert_bytes_back (P := Try.prog) (W.alloc (.cells #[.int .u8 (x : Nat)] 5)) 44 9 5 ⟨W.heap.size, 0, none⟩ 1 [UInt8.ofNat x] Try.underlying44 Try.underlying5 Try.underlying9 (fun j hj => by
    have hj0 : j = 0 := by simpa using hj
    subst hj0
    rw [addr_add0]
    have e1 : (UInt8.ofNat x).toNat = x := by simp; omega
    simp only [List.getElem_cons_zero, e1]
    exact (Blk.new W 5 [.int .u8 (x : Nat)]).cell (i := 0) rfl)
  exact this
set_option maxRecDepth 100000 in
set_option maxHeartbeats 800000 in
theorem rPut01_any {W : World} {n : Nat} (hn : n < 18446744073709551616) : Calls Try.prog 66 #[.int .u64 n, .int .i64 8] W fun e w' => e = .returned (.tuple #[.string (num8 n), .bool true]) ∧ Mods [] W w' := by
  go_enter Try.func66, Try.ntmps66
  go_wp2_with fail
  go_loopw [0, 6, 7] (fun nv sv jv wr => ∃ j : Nat, j ≤ 8 ∧ jv = .int .i64 j ∧ nv = .int .u64 (n / 256 ^ j : Nat) ∧ sv = .string ⟨(leBytes j n).toArray⟩ ∧ Mods [] W wr) (fun _ _ jv _ => 8 - (intOf jv).toNat)
  case atStart => exact ⟨0, by omega, rfl, by simp, by simp [leBytes], Mods.refl _ _⟩
  case round =>
    obtain ⟨j, hj, rfl, rfl, rfl, hm⟩ := hrel
    by_cases hj8 : j < 8
    · obtain ⟨y, hy⟩ : ∃ y, n / 256 ^ j = y := ⟨_, rfl⟩
      have hyl : y < 18446744073709551616 := by rw [← hy]; exact Nat.lt_of_le_of_lt (Nat.div_le_self _ _) hn
      obtain ⟨x, hx⟩ : ∃ x, y % 256 = x := ⟨_, rfl⟩
      have hx1 : (y : Int) % 256 = (x : Int) := by omega
      have hcv := run_byte_string wr x (by omega)
      have hsz : (leBytes j n).toArray.size = j := by simp [leBytes_length]
      rw [hy]
      go_wp2_with fail
      go_roundw
      case rel =>
        refine ⟨j + 1, by omega, by simp, ?_, ?_, hm.alloc _⟩
        · rw [Nat.pow_succ, ← Nat.div_div_eq_div_mul, hy]; rfl
        · rw [← num8_bytes, hy, hx]
      case measure => simp [intOf]; omega
    · obtain rfl : j = 8 := by omega
      have hz : n / 256 ^ 8 = 0 := Nat.div_eq_of_lt (by omega)
      rw [hz]
      go_wp2_with fail
      go_ret2
      exact ⟨rfl, hm⟩
end Go.Proofs.Ytahaecieklfhkaa
