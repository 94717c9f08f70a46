/- The walks of package bits: List, Copy. -/
import Derived.Test.YtahaecieklfhkaaDoorBits4
import Derived.Deep.LoopGhost
import Derived.Deep.RegionHeld3
import Derived.Deep.DeepFit
namespace Go.Proofs.YtahaecieklfhkaaDoor
open Go.RowKit

/-- Those of a set below a number, rising. -/
def onTo (l : List Bool) (F : Nat) : List Nat := (List.range F).filter (fun k => mem l k)
theorem onTo_zero (l : List Bool) : onTo l 0 = [] := rfl
theorem filter_none {p : Nat → Bool} {a b : Nat} (hab : a ≤ b) (h : ∀ k, a ≤ k → k < b → p k = false) : (List.range b).filter p = (List.range a).filter p := by
  obtain ⟨d, rfl⟩ : ∃ d, b = a + d := ⟨b - a, by omega⟩
  rw [List.range_add, List.filter_append]
  have : List.filter p ((List.range d).map (a + ·)) = [] := by
    rw [List.filter_eq_nil_iff]
    intro x hx
    obtain ⟨y, hy, rfl⟩ := List.mem_map.1 hx
    rw [h _ (by omega) (by have := List.mem_range.1 hy; omega)]; simp
  rw [this, List.append_nil]
theorem onTo_some {l : List Bool} {F k : Nat} (h : nextL l F true = some k) : onTo l (k + 1) = onTo l F ++ [k] ∧ F ≤ k ∧ k < l.length := by
  obtain ⟨h1, h2, h3, h4⟩ := nextL_iff.1 h
  refine ⟨?_, h1, h2⟩
  unfold onTo
  rw [List.range_succ, List.filter_append, filter_none h1 (fun j hj1 hj2 => by have := h4 j hj1 hj2; simpa using this)]
  simp [h3]
theorem onTo_none {l : List Bool} {F : Nat} (h : nextL l F true = none) : onTo l F = onL l := by
  have h4 := nextL_none_iff.1 h
  unfold onTo onL
  by_cases hF : F ≤ l.length
  · exact (filter_none hF (fun j hj1 hj2 => by have := h4 j hj1 hj2; simpa using this)).symm
  · exact filter_none (by omega) (fun j hj1 _ => mem_out hj1)
theorem onTo_length (l : List Bool) (F : Nat) : (onTo l F).length ≤ F := by
  unfold onTo; have := List.length_filter_le (fun k => mem l k) (List.range F); simpa using this

theorem info_int : (Tryd.prog.info? 3).map (fun i => (i.zero, i.size, i.bytes)) = some (some (.int .i64 0), 1, 8) := by kernel_rfl
def intsOf (xs : List Nat) : List Value := xs.map (fun x => Value.int .i64 (x : Nat))

theorem next_cases (r : Option Nat) : (r = none ∧ nxK r = 0 ∧ nxB r = false) ∨ ∃ k, r = some k ∧ nxK r = k ∧ nxB r = true := by
  cases r with
  | none => exact .inl ⟨rfl, rfl, rfl⟩
  | some k => exact .inr ⟨k, rfl, rfl, rfl⟩

set_option maxHeartbeats 1000000 in
theorem list_any {w : World} {b c : Nat} {l : List Bool} (h : IsSet w b c l) (hT : Tab w) :
    Calls Tryd.prog 17 #[.pointer (some ⟨b, 0, none⟩)] w fun e w' => ∃ v, e = .returned v ∧ w'.ownsRow w.heap.size 3 1 v (onL l).length (intsOf (onL l)) ∧ Mods [] w w' ∧ (onL l = [] → v = .slice none 0 0) := by
  obtain ⟨i0, hi0, hz0, hz1, hz2⟩ := info_parts info_int
  have hl := h.len
  have hlt := h.lt
  have hTl := hT.lt
  have HS := Lib.hid h
  have HT := Lib.hid hT
  clear h hT
  go_enter Tryd.func17, Tryd.ntmps17
  go_wp2_with (first
    | (go_at_call 15; refine (next_any HS.out HT.out _ _).mono ?_; rintro e w' ⟨rfl, rfl⟩))
  go_loopg [3, 4, 5] (l.length) (fun g v kv bv wr => ∃ F : Nat, g = l.length - F ∧ F ≤ l.length ∧ kv = .int .i64 (nxK (nextL l F true) : Nat) ∧ bv = .bool (nxB (nextL l F true)) ∧
    wr.ownsRow w.heap.size 3 1 v (onTo l F).length (intsOf (onTo l F)) ∧ Mods [] w wr ∧ (onTo l F = [] → v = .slice none 0 0))
  case atStart => exact ⟨0, by omega, Nat.zero_le _, rfl, rfl, World.ownsRow_nil _ _ _ _, Mods.refl _ _, fun _ => rfl⟩
  case round =>
    obtain ⟨F, hg, hF, rfl, rfl, hown, hm, hnil⟩ := hrel
    rcases next_cases (nextL l F true) with ⟨hr, hk, hb⟩ | ⟨k, hr, hk, hb⟩
    · rw [hk, hb]
      have HR := Lib.hid (onTo_none hr)
      clear hr hk hb hg
      go_wp2
      go_ret
      rw [HR.out] at hown hnil
      exact ⟨_, rfl, hown, hm, hnil⟩
    · rw [hk, hb]
      obtain ⟨e1, e2, e3⟩ := onTo_some hr
      have HR := Lib.hid e1
      have HG := Lib.hid hg
      clear hr hk hb hg e1
      have hol := onTo_length l F
      have HO := Lib.hid hown
      clear hown
      have HSr := Lib.hid (HS.out.keep hm (by simp) (by simp))
      have HTr := Lib.hid (HT.out.keep hm (by simp))
      have hsz := hm.size
      go_wp2_with (at_builtin; refine wpList_append_own _ rfl (.tmp 19) (.tmp 21) 37 rfl w.heap.size 3 i0 (.int .i64 0) 1 8 Tryd.underlying37 hi0 hz0 hz1 hz2 rfl (by decide) _ _ _ rfl (HO.out.alloc _) ⟨wr.heap.size, 0, none⟩ 1 1 [.int .i64 (k : Nat)] rfl rfl (cell_one_new _ _ _) (by simp [Value.oneCell']) (by unfold maxLen; omega) (by omega) (by simp; omega) ?_; intro v1 w1 hown1 hg1 hn1)
      have hm1 : Mods [] w w1 := (hm.alloc _).grown hg1 (fun q hq => .inr (HO.out.lt q hq).1)
      have hv1 : v1 ≠ .slice none 0 0 := fun e => by have := hn1.1 e; omega
      have ek : nextI l ((k : Int) + 1) true = nextL l (k + 1) true := by unfold nextI; rw [show ((k : Int) + 1).toNat = k + 1 from by omega]
      have EK := Lib.hid ek
      have HV := Lib.hid hv1
      have HO1 := Lib.hid hown1
      clear ek hv1 hown1 hn1
      refine (next_any (b := b) (c := c) (l := l) (HS.out.keep hm1 (by simp) (by simp)) (HT.out.keep hm1 (by simp)) _ _).mono ?_
      rintro e w' ⟨rfl, rfl⟩
      rw [EK.out]
      go_wp2
      go_roundg (l.length - (k + 1))
      case measure => have := HG.out; omega
      case rel =>
        refine ⟨k + 1, rfl, by omega, rfl, rfl, ?_, hm1, fun h => absurd h ?_⟩
        · rw [HR.out]
          simpa [intsOf] using HO1.out
        · rw [HR.out]; simp

/-- What an owned row of words is, as a block. -/
theorem row_blk {w : World} {base e n : Nat} {v : Value} {xs : List Value} (h : w.ownsRow base e 1 v n xs) (hv : v ≠ .slice none 0 0) :
    ∃ g cap rest, v = .slice (some ⟨g, 0, none⟩) n cap ∧ base ≤ g ∧ n ≤ cap ∧ cap ≤ maxLen ∧ Blk w g e (xs ++ rest) ∧ (xs ++ rest).length = cap := by
  obtain ⟨h1, h2⟩ := h
  rcases h2 with ⟨h2, _⟩ | ⟨g, cap, cur, hv2, hg, hh, hn, hc, hs, hx⟩
  · exact absurd h2 hv
  · refine ⟨g, cap, cur.toList.drop (n * 1), hv2, hg, hn, hc, ?_, ?_⟩
    · rw [← hx, List.take_append_drop]
      exact hh
    · rw [← hx, List.take_append_drop]; simp [hs]

set_option maxHeartbeats 1000000 in
theorem clone_row {w : World} {c m cap : Nat} {ws : List Nat} {rest : List Value} (h : Blk w c 79 (ws.map (fun x => Value.int .u64 (x : Nat)) ++ rest)) (hm0 : 1 ≤ m) (hm : ws.length = m) (hmax : m ≤ 64) :
    Calls Tryd.prog 48 #[.slice (some ⟨c, 0, none⟩) m cap] w fun e w' => ∃ v, e = .returned v ∧ w'.ownsRow w.heap.size 79 1 v m (ws.map (fun x => Value.int .u64 (x : Nat))) ∧ Mods [] w w' ∧ v ≠ .slice none 0 0 := by
  obtain ⟨i0, hi0, hz0, hz1, hz2⟩ := info_parts info_uint
  have hcl := h.lt
  have hcells : ∀ j u, (ws.map (fun x => Value.int .u64 (x : Nat)))[j]? = some u → (w.alloc (.cells #[] 79)).cell? ((⟨c, 0, none⟩ : Addr).add j) = some u := by
    intro j u hj
    have hjl : j < ws.length := by
      have := (List.getElem?_eq_some_iff.1 hj).1
      simpa using this
    rw [addr_add0, World.cell?_alloc_lt _ _ _ (by simpa using hcl), h.cell]
    rw [List.getElem?_append_left (by simpa using hjl)]
    exact hj
  have HC := Lib.hid hcells
  clear hcells
  have hone : ∀ u ∈ ws.map (fun x => Value.int .u64 (x : Nat)), u.oneCell' = true := by
    intro u hu
    obtain ⟨x, _, rfl⟩ := List.mem_map.1 hu
    rfl
  have H1 := Lib.hid hone
  have HM := Lib.hid hm
  clear hone hm
  have hne := fun W => Lib.run_eql_slice_nil (P := Tryd.prog) W 76 79 (some ⟨c, 0, none⟩) m cap 0 0 Tryd.underlying76
  go_enter Tryd.func48, Tryd.ntmps48
  go_wp2_with (at_builtin; refine wpList_append_own _ rfl (.tmp 5) (.tmp 6) 76 rfl w.heap.size 79 i0 (.int .u64 0) 1 8 Tryd.underlying76 hi0 hz0 hz1 hz2 rfl (by decide) (.slice (some ⟨w.heap.size, 0, none⟩) 0 0) 0 [] rfl (World.ownsRow_made w #[] 0 (Nat.le_refl _) (by decide) rfl) ⟨c, 0, none⟩ m cap (ws.map (fun x => Value.int .u64 (x : Nat))) rfl (by simp [HM.out]) HC.out H1.out (by unfold maxLen; omega) (by omega) (by simp) ?_; intro v1 w1 hown1 hg1 hn1)
  go_ret
  refine ⟨v1, rfl, by simpa using hown1, ((Mods.refl [] w).alloc _).grown hg1 (fun q hq => .inr (by simp [Value.ownBlock] at hq; omega)), fun e => ?_⟩
  have := (hn1.1 e).1
  cases this

theorem clone_any {w : World} {c m cap : Nat} {ws : List Nat} {rest : List Value} (h : Blk w c 79 (ws.map (fun x => Value.int .u64 (x : Nat)) ++ rest)) (hm0 : 1 ≤ m) (hm : ws.length = m) (hmax : m ≤ 64) :
    Calls Tryd.prog 48 #[.slice (some ⟨c, 0, none⟩) m cap] w fun e w' => ∃ g cap1 rest1, e = .returned (.slice (some ⟨g, 0, none⟩) m cap1) ∧ w.heap.size ≤ g ∧ m ≤ cap1 ∧ cap1 ≤ maxLen ∧
      Blk w' g 79 (ws.map (fun x => Value.int .u64 (x : Nat)) ++ rest1) ∧ Mods [] w w' := by
  refine (clone_row h hm0 hm hmax).mono fun e w' ⟨v, he, hown, hms, hv⟩ => ?_
  obtain ⟨g, cap1, rest1, rfl, h1, h2, h3, h4, h5⟩ := row_blk hown hv
  exact ⟨g, cap1, rest1, he, h1, h2, h3, h4, hms⟩

set_option maxHeartbeats 400000 in
theorem copy_nil (w : World) :
    Calls Tryd.prog 20 #[.pointer none] w fun e w' => e = .returned (.pointer none) ∧ w = w' := by
  go_enter Tryd.func20, Tryd.ntmps20
  go_wp2
  go_ret
  exact ⟨rfl, rfl⟩

set_option maxHeartbeats 1000000 in
theorem copy_any {w : World} {b c : Nat} {l : List Bool} (h : IsSet w b c l) :
    Calls Tryd.prog 20 #[.pointer (some ⟨b, 0, none⟩)] w fun e w' => ∃ b1 c1, e = .returned (.pointer (some ⟨b1, 0, none⟩)) ∧ IsSet w' b1 c1 l ∧ Mods [] w w' ∧ w.heap.size ≤ b1 ∧ w.heap.size ≤ c1 := by
  obtain ⟨ws, rest, cap, h1, h2, h3, h4, h5, h6, h7, h8⟩ := h
  have a0 := h7.cell (i := 0) rfl
  have a1 := h7.cell (i := 1) rfl
  have hlen1 : 1 ≤ ws.length := by have := h1.len; omega
  have hlen2 : ws.length ≤ 64 := by have := h1.len; omega
  have hbl := h7.lt
  have H7 := Lib.hid h7
  have H8 := Lib.hid h8
  clear h7 h8
  go_enter Tryd.func20, Tryd.ntmps20
  go_wp2
  go_region_held3 (fun w' => w'.cell? ⟨b, 0, none⟩ = some (.int .i64 l.length) ∧ w'.cell? ⟨b, 1, none⟩ = some (.slice (some ⟨c, 0, none⟩) ws.length cap))
    (first | go_keep | exact ⟨(hm.cell (by exact hbl) (by simp)).trans a0, (hm.cell (by exact hbl) (by simp)).trans a1⟩)
    ((first | (go_at_call 48; refine (clone_any (w := w.drew) H8.out hlen1 rfl hlen2).mono ?_; rintro e w1 ⟨g, cap1, rest1, rfl, hg, hc1, hc2, hb1, hm⟩)))
  go_wp2
  go_ret
  have hm0 : Mods [] w w1 := ⟨hm.os, hm.tape, hm.output, hm.size, hm.block⟩
  refine ⟨w1.heap.size, g, rfl, ⟨ws, rest1, cap1, h1, h2, h3, ?_, hc1, hc2, ?_, hb1.alloc _⟩, hm0.alloc _, hm0.size, hg⟩
  · have := hb1.lt; omega
  · exact Blk.new w1 78 [.int .i64 l.length, .slice (some ⟨g, 0, none⟩) ws.length cap1]
end Go.Proofs.YtahaecieklfhkaaDoor
