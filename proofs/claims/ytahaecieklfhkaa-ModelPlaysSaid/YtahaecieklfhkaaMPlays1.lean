/- The document's entries: Get, may, and the program's copy of them. -/
import Derived.Test.YtahaecieklfhkaaModelEq0
namespace Go.Proofs.Ytahaecieklfhkaa
open Go.RowKit

theorem getE_drop {E : Ents} {j : Nat} {x : ByteArray × ByteArray} (hx : E[j]? = some x) (k : ByteArray) (h : getE E k = getE (E.drop j) k) :
    (x.1 = k → getE E k = some x.2) ∧ (x.1 ≠ k → getE E k = getE (E.drop (j + 1)) k) := by
  have hd : E.drop j = x :: E.drop (j + 1) := by
    obtain ⟨hj, rfl⟩ := List.getElem?_eq_some_iff.1 hx
    exact (List.getElem_cons_drop hj).symm
  rw [h, hd]
  unfold getE
  constructor
  · intro e; simp [e]
  · intro e; simp [e]
set_option maxRecDepth 100000 in
set_option maxHeartbeats 1600000 in
theorem rGet16_any {W : World} {A : Option Addr} {E : Ents} {n c : Nat} (hr : Row W A (eRow E)) (hn : E.length = n) (hsm : n < 1000000) (k : ByteArray) :
    Calls Try.prog 33 #[.slice A n c, .string k] W fun e w' => e = .returned (.tuple #[.string ((getE E k).getD ⟨#[]⟩), .bool (getE E k).isSome]) ∧ W = w' := by
  have HR := Lib.hid hr
  have HN := Lib.hid hn
  clear hr hn
  go_enter Try.func33, Try.ntmps33
  go_wp2_with fail
  go_loopw [6] (fun iv wr => ∃ j : Nat, j ≤ n ∧ iv = .int .i64 j ∧ getE E k = getE (E.drop j) k ∧ W = wr) (fun iv _ => n - (intOf iv).toNat)
  case atStart => exact ⟨0, Nat.zero_le _, rfl, rfl, rfl⟩
  case round =>
    obtain ⟨j, hj, rfl, hg, rfl⟩ := hrel
    by_cases hjl : j < n
    · obtain ⟨x, hx⟩ : ∃ x, E[j]? = some x := ⟨_, List.getElem?_eq_getElem (by rw [HN.out]; exact hjl)⟩
      obtain ⟨bb, ob, rfl, c0, c1⟩ := eRow_at HR.out hx
      obtain ⟨hg1, hg2⟩ := getE_drop hx k hg
      have HG := Lib.hid (And.intro hg1 hg2)
      clear hg hg1 hg2 hx
      by_cases hk : x.1 = k
      · have hg3 := Lib.hid (HG.out.1 hk)
        have hk2 : (x.1.toList == k.toList) = true := by rw [hk]; simp
        clear hk
        go_wp2_with fail
        go_ret2
        rw [hg3.out]
        exact ⟨rfl, rfl⟩
      · have hk2 : (x.1.toList == k.toList) = false := by rw [beq_eq_false_iff_ne]; exact fun e => hk (toList_inj e)
        have hg3 := Lib.hid (HG.out.2 hk)
        clear hk
        go_wp2_with fail
        go_roundw
        case rel => exact ⟨j + 1, by omega, by simp, hg3.out, trivial⟩
        case measure => simp [intOf]; omega
    · obtain rfl : j = n := by omega
      have hg0 : getE E k = none := by rw [hg, List.drop_of_length_le (Nat.le_of_eq HN.out)]; rfl
      have HG := Lib.hid hg0
      clear hg hg0
      go_wp2_with fail
      go_ret2
      rw [HG.out]
      exact ⟨rfl, rfl⟩
theorem may_bool (E : Ents) (u : Upd) : decide (mayU (getE E u.key) u) = (if u.kind = 3 then (if (getE E u.key).isSome = true then decide (((getE E u.key).getD ⟨#[]⟩).size = 8) else true) else true) := by
  by_cases h : u.kind = 3
  · cases hg : getE E u.key with
    | none => simp [mayU, h]
    | some v => simp [mayU, h]
  · simp [mayU, h]
set_option maxRecDepth 100000 in
set_option maxHeartbeats 1600000 in
theorem may28_any {W : World} {A : Option Addr} {E : Ents} {n c : Nat} (hr : Row W A (eRow E)) (hn : E.length = n) (hsm : n < 1000000) (u : Upd) :
    Calls Try.prog 30 #[.slice A n c, updV u] W fun e w' => e = .returned (.bool (decide (mayU (getE E u.key) u))) ∧ Mods [] W w' := by
  have hb := Lib.hid (may_bool E u)
  have HR := Lib.hid hr
  have HN := Lib.hid hn
  clear hr hn
  unfold updV
  obtain ⟨w1, hw1⟩ : ∃ w1, W.alloc (.cells #[.int .u8 (u.kind : Nat), .string u.key, .string u.val, .int .u64 (u.delta : Nat)] 31) = w1 := ⟨_, rfl⟩
  have hB : Blk w1 W.heap.size 31 [.int .u8 (u.kind : Nat), .string u.key, .string u.val, .int .u64 (u.delta : Nat)] := by rw [← hw1]; exact Blk.new W 31 _
  have hm : Mods [] W w1 := by rw [← hw1]; exact (Mods.refl _ _).alloc _
  have c0 := hB.cell (i := 0) rfl
  have c1 := hB.cell (i := 1) rfl
  have HM := Lib.hid hm
  have hw1' := Lib.hid hw1
  clear hw1 hm hB
  go_enter Try.func30, Try.ntmps30
  go_wp2_with fail
  rw [hw1'.out]
  refine (rGet16_any (HR.out.keep HM.out (fun _ _ => by simp)) HN.out hsm u.key).mono ?_
  rintro x w2 ⟨rfl, rfl⟩
  obtain ⟨o, ho⟩ : ∃ o, getE E u.key = o := ⟨_, rfl⟩
  have hb2 : Hid (decide (mayU (getE E u.key) u) = if u.kind = 3 then if o.isSome = true then decide ((o.getD ⟨#[]⟩).size = 8) else true else true) := by rw [← ho]; exact hb.out
  rw [ho]
  clear hb ho
  by_cases h3 : u.kind = 3
  · cases o with
    | none =>
      go_wp2_with fail
      go_ret
      exact ⟨by rw [hb2.out]; simp [h3], HM.out⟩
    | some v =>
      by_cases h8 : v.size = 8
      · go_wp2_with fail
        go_ret
        exact ⟨by rw [hb2.out]; simp [h3, h8], HM.out⟩
      · go_wp2_with fail
        go_ret
        exact ⟨by rw [hb2.out]; simp [h3, h8]; omega, HM.out⟩
  · go_wp2_with fail
    go_ret
    exact ⟨by rw [hb2.out]; simp [h3], HM.out⟩
set_option maxRecDepth 100000 in
set_option maxHeartbeats 1600000 in
theorem entries28_any {W : World} {A : Option Addr} {E : Ents} {n c : Nat} (hr : Row W A (eRow E)) (hn : E.length = n) (hsm : n < 1000000) :
    Calls Try.prog 35 #[.slice A n c] W fun e w' => ∃ B d, e = .returned (.slice B n d) ∧ Row w' B (eRow E) ∧ Mods [] W w' := by
  have HR := Lib.hid hr
  have HN := Lib.hid hn
  clear hr hn
  obtain ⟨i0, hi0, hz0, hz1, hz2⟩ := info_parts info_entry
  go_enter Try.func35, Try.ntmps35
  go_wp2_with fail
  go_loopw [3, 5, 8] (fun ov _ iv wr => ∃ j : Nat, j ≤ n ∧ iv = .int .i64 j ∧ wr.ownsRow W.heap.size 42 2 ov j (eRow (E.take j)) ∧ Mods [] W wr) (fun _ _ iv _ => n - (intOf iv).toNat)
  case atStart => exact ⟨0, Nat.zero_le _, rfl, by simpa [eRow] using World.ownsRow_nil _ _ _ _, Mods.refl _ _⟩
  case round =>
    obtain ⟨j, hj, rfl, hown, hm⟩ := hrel
    have HO := Lib.hid hown
    clear hown
    by_cases hjl : j < n
    · obtain ⟨x, hx⟩ : ∃ x, E[j]? = some x := ⟨_, List.getElem?_eq_getElem (by rw [HN.out]; exact hjl)⟩
      obtain ⟨bb, ob, rfl, c0, c1⟩ := eRow_at (HR.out.keep hm (fun _ _ => by simp)) hx
      have ht : E.take (j + 1) = E.take j ++ [x] := by rw [List.take_add_one, hx]; rfl
      have HT := Lib.hid ht
      have HM := Lib.hid hm
      have hsz := hm.size
      clear hm hx ht
      obtain ⟨x1, x2⟩ := x
      go_wp2_with (at_builtin; refine wpList_append_own _ rfl (.tmp 12) (.tmp 14) 36 rfl W.heap.size 42 i0 (.agg #[.string ⟨#[]⟩, .string ⟨#[]⟩]) 2 32 Try.underlying36 hi0 hz0 hz1 hz2 rfl (by decide) _ _ _ rfl ((owns_keepM HO.out ((Mods.refl [] wr).alloc _) (by simp)).alloc _) ⟨wr.heap.size + 1, 0, none⟩ 1 1 (ecells (x1, x2)) rfl rfl (fun j u hj => by rw [addr_add0]; have h := (Blk.new (wr.alloc (.cells #[.string x1, .string x2] 88)) 42 (ecells (x1, x2))).cell hj; simpa [ecells] using h) (by simp [ecells, Value.oneCell']) (by unfold maxLen; omega) (by omega) (by simp; omega) ?_; intro v1 w4 hown1 hg1 _)
      have hm4 : Mods [] W w4 := ((HM.out.alloc _).alloc _).grown hg1 (fun q hq => .inr (HO.out.lt q hq).1)
      have HO1 := Lib.hid hown1
      clear hown1 hg1
      go_wp2_with fail
      go_roundw
      case rel =>
        refine ⟨j + 1, by omega, by go_num, ?_, hm4⟩
        rw [HT.out, eRow_app]
        exact HO1.out
      case measure => simp [intOf]; omega
    · obtain rfl : j = n := by omega
      have HM := Lib.hid hm
      clear hm
      obtain ⟨B, d, rfl, hrow, _, _⟩ := owns2 HO.out
      rw [List.take_of_length_le (Nat.le_of_eq HN.out)] at hrow
      have HW := Lib.hid hrow
      clear hrow
      go_wp2_with fail
      go_ret
      exact ⟨B, d, rfl, HW.out, HM.out⟩
end Go.Proofs.Ytahaecieklfhkaa
