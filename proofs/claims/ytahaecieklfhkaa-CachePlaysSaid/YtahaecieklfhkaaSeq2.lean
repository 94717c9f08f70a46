/- slices.Values at the cache's order; slices.SortedFunc's gathering. -/
import Derived.Test.YtahaecieklfhkaaSeq1
namespace Go.Proofs.Ytahaecieklfhkaa
open Go.RowKit Go.Maps Go.Sort Go.Shelf

set_option maxRecDepth 100000 in
set_option maxHeartbeats 2000000 in
/-- slices.Values's iterator gives what the row holds, in its order. -/
theorem values_B (F : Fence) (n : Nat) (h62 : F.fn 62) (hro : F.round = none) (hn : 1 ≤ n) (Bs g cap : Nat) (zs : List Nat) (hlen : zs.length < 1000000) (w : World) (hBs : w.cell? ⟨Bs, 0, none⟩ = some (.slice (some ⟨g, 0, none⟩) zs.length cap))
    (hc : ∀ (j : Nat) x, zs[j]? = some x → w.cell? ⟨g, j, none⟩ = some (encP x)) (hg : g < w.heap.size) :
    SeqB F n Try.prog 62 #[.pointer (some ⟨Bs, 0, none⟩)] (fun xs => xs = zs) zs.length w := by
  intro l J W hW hJ hY h0
  have hBs' := (hW.cell (p := ⟨Bs, 0, none⟩) (World.block_lt_of_cell? w _ hBs)).trans hBs
  have HY := Lib.hid hY
  have HJ := Lib.hid hJ
  have HC := Lib.hid hc
  have H0 := Lib.hid h0
  clear hY hJ hc h0 hBs hW
  generalize hL : zs.length = len at *
  have HL := Lib.hid hL
  clear hL
  refine callsIn_of_wp Try.func62 rfl h62 ?_ hro
  simp only [Try.ntmps62, List.size_toArray, List.length_cons, List.length_nil, Nat.reduceAdd, Nat.reduceSub, Array.replicate_succ, Array.replicate_zero, List.push_toArray, List.append_toArray, List.nil_append, List.cons_append]
  gi_wp2
  gi_loopw [7] (fun i wr => ∃ k : Nat, k ≤ len ∧ i = .int .i64 k ∧ J (zs.take k) wr)
    (fun i _ => len - (intOf i).toNat)
  case atStart => exact ⟨0, Nat.zero_le _, rfl, H0.out⟩
  case round =>
    obtain ⟨k, hk, rfl, hJs⟩ := hrel
    by_cases hlt : k < len
    · have hkz : k < zs.length := by rw [HL.out]; exact hlt
      obtain ⟨x, hx⟩ : ∃ x, zs[k]? = some x := ⟨_, List.getElem?_eq_getElem hkz⟩
      obtain ⟨fn, tmps, assign, body, hy, hR⟩ := HY.out _ x wr hJs (by simp; omega)
      have hcx : wr.cell? ⟨g, k, none⟩ = some (.pointer (some ⟨x, 0, none⟩)) := ((HJ.out _ _ hJs).cell (p := ⟨g, k, none⟩) hg).trans (HC.out k x hx)
      have HJs := Lib.hid hJs
      simp only [encP] at hy
      clear hJs
      gi_wp2
      refine hR.mono ?_
      rintro e W3 ⟨rfl, hJ3, hk3⟩
      gi_wp2
      go_roundw
      case rel =>
        refine ⟨k + 1, by omega, by simp, ?_⟩
        have : zs.take (k + 1) = zs.take k ++ [x] := by
          rw [List.take_add_one, hx]; rfl
        rw [this]; exact hJ3
      case measure => simp [intOf]; omega
    · obtain rfl : k = len := by omega
      rw [List.take_of_length_le (by rw [HL.out]; exact Nat.le_refl _)] at hJs
      gi_wp2
      go_end0
      exact ⟨⟨_, rfl⟩, zs, rfl, hJs⟩

set_option maxRecDepth 100000 in
set_option maxHeartbeats 1000000 in
theorem values_nil_B (F : Fence) (n : Nat) (h62 : F.fn 62) (hro : F.round = none) (Bs : Nat) (w : World) (hBs : w.cell? ⟨Bs, 0, none⟩ = some (.slice none 0 0)) :
    SeqB F n Try.prog 62 #[.pointer (some ⟨Bs, 0, none⟩)] (fun xs => xs = []) 0 w := by
  intro l J W hW hJ hY h0
  have hBs' := (hW.cell (p := ⟨Bs, 0, none⟩) (World.block_lt_of_cell? w _ hBs)).trans hBs
  have H0 := Lib.hid h0
  clear hY hJ h0 hBs hW
  refine callsIn_of_wp Try.func62 rfl h62 ?_ hro
  simp only [Try.ntmps62, List.size_toArray, List.length_cons, List.length_nil, Nat.reduceAdd, Nat.reduceSub, Array.replicate_succ, Array.replicate_zero, List.push_toArray, List.append_toArray, List.nil_append, List.cons_append]
  gi_wp2
  gi_loopw [7] (fun i wr => i = .int .i64 0 ∧ J [] wr) (fun _ _ => 0)
  case atStart => exact ⟨rfl, H0.out⟩
  case round =>
    obtain ⟨rfl, hJs⟩ := hrel
    gi_wp2
    go_end0
    exact ⟨⟨_, rfl⟩, [], rfl, hJs⟩

set_option maxHeartbeats 400000 in
/-- slices.Values: the slice is boxed; the iterator has the box. -/
theorem values_any (s : Option Addr) (n c : Nat) (w : World) :
    Calls Try.prog 47 #[.slice s n c] w fun e w' => e = .returned (.func (.func 62) #[] #[.pointer (some ⟨w.heap.size, 0, none⟩)]) ∧ w' = w.alloc (.cells #[.slice s n c] 107) := by
  go_enter Try.func47, Try.ntmps47
  go_wp2
  go_ret
  exact ⟨rfl, rfl⟩

/-- slices.Collect of the iterator: a row of one's own with what the order's row holds. -/
theorem collect_order {w : World} {v : Value} {E : List Ent} (h : OrdW w v E) (hsm : E.length < 1000000) {Bs : Nat} (hBs : w.cell? ⟨Bs, 0, none⟩ = some v) :
    Calls Try.prog 60 #[.func (.func 62) #[] #[.pointer (some ⟨Bs, 0, none⟩)]] w fun e w' => ∃ u, e = .returned u ∧ w'.ownsRow w.heap.size 112 1 u E.length (E.map Ent.ptr) ∧ (u = .slice none 0 0 ↔ E = []) ∧ Below w.heap.size w w' := by
  have hN : E.length ≤ maxLen := by unfold maxLen; omega
  have hseq : SeqB Fence.wide (3 - 1 - 1) Try.prog 62 #[.pointer (some ⟨Bs, 0, none⟩)] (fun xs => xs = E.map Ent.blk) E.length w := by
    rcases h with ⟨rfl, rfl⟩ | ⟨g, cap, rfl, hH⟩
    · exact values_nil_B Fence.wide _ trivial rfl Bs w hBs
    · have := values_B Fence.wide (3 - 1 - 1) trivial rfl (by omega) Bs g cap (E.map Ent.blk) (by simpa using hsm) w (by simpa using hBs) (fun j x hx => by
        rw [List.getElem?_map] at hx
        obtain ⟨e, he, rfl⟩ := Option.map_eq_some_iff.1 hx
        exact hH.at he) (by obtain ⟨⟨r, h1, _⟩, _⟩ := hH; exact h1.lt)
      simpa using this
  refine (callsIn_wide.1 (collect_in Fence.wide 3 trivial trivial rfl (by omega) 62 _ trivial (enters_of Try.func62 (by kernel_rfl) rfl) _ E.length hN (by omega) w hseq)).mono ?_
  rintro e w' ⟨u, ss, rfl, rfl, hrow, hnil, hb⟩
  have e1 : (E.map Ent.blk).map encP = E.map Ent.ptr := by rw [List.map_map]; rfl
  rw [e1, List.length_map] at hrow
  exact ⟨u, rfl, hrow, by rw [hnil]; simp, hb⟩
end Go.Proofs.Ytahaecieklfhkaa
