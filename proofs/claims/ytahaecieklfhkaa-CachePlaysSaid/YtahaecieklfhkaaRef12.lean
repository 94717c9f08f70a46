/- The walks of the document's cache (treenailref11): Put, Get. -/
import Derived.Test.YtahaecieklfhkaaRef11
namespace Go.Proofs.Ytahaecieklfhkaa
open Go.RowKit Go.Maps

theorem owns5 {w : World} {base n : Nat} {e : TypeId} {u : Value} {xs : List Value} (h : w.ownsRow base e 5 u n xs) :
    ∃ A cap, u = .slice A n cap ∧ Row w A xs ∧ n ≤ cap ∧ (∀ a, A = some a → base ≤ a.block) := by
  have hc := fun g hg => h.cells (g := g) hg
  obtain ⟨k1, k2⟩ := h
  rcases k2 with ⟨rfl, rfl⟩ | ⟨g, cap, cur, rfl, hb, _, hn, _⟩
  · exact ⟨none, 0, rfl, .inl (List.eq_nil_of_length_eq_zero (by simpa using k1)), Nat.le_refl _, fun a ha => by cases ha⟩
  · refine ⟨_, cap, rfl, .inr ⟨g, 0, rfl, fun i u hi => ?_⟩, hn, fun a ha => by cases ha; exact hb⟩
    have := hc g rfl i u hi
    rw [addr_add0] at this
    rw [Nat.zero_add]; exact this
theorem owns5_mods {w w1 : World} {base n : Nat} {e : TypeId} {u : Value} {xs : List Value} (h : w.ownsRow base e 5 u n xs) {L : List Nat} (hm : Mods L w w1) (hL : ∀ k, base ≤ k → k ∉ L) : w1.ownsRow base e 5 u n xs := by
  obtain ⟨k1, k2⟩ := h
  refine ⟨k1, ?_⟩
  rcases k2 with k2 | ⟨g, cap, cur, rfl, hb, hh, r⟩
  · exact .inl k2
  · exact .inr ⟨g, cap, cur, rfl, hb, hm.keep hh (hL g hb), r⟩

theorem owns5_base {w : World} {base base1 n : Nat} {e : TypeId} {u : Value} {xs : List Value} (h : w.ownsRow base e 5 u n xs) (hb : base1 ≤ base) : w.ownsRow base1 e 5 u n xs := by
  obtain ⟨k1, k2⟩ := h
  refine ⟨k1, ?_⟩
  rcases k2 with k2 | ⟨g, cap, cur, a1, a2, a3⟩
  · exact .inl k2
  · exact .inr ⟨g, cap, cur, a1, Nat.le_trans hb a2, a3⟩

set_option maxRecDepth 100000 in
set_option maxHeartbeats 3200000 in
theorem rPut11_any {w : World} {A : Option Addr} {cap n : Nat} {R : List Kept} (hr : Row w A (kRow R)) (hsm : R.length < 10000) (hcap : R.length ≤ cap) (hn : 1 ≤ n) (hn2 : n < 10000) (x : Kept) :
    Calls Try.prog 23 #[.slice A R.length cap, .int .i64 n, .agg (kcells x).toArray] w fun e w' => ∃ u, e = .returned u ∧ w'.ownsRow w.heap.size 66 5 u (putK n R x).length (kRow (putK n R x)) ∧ Mods [] w w' := by
  obtain ⟨i0, hi0, hz0, hz1, hz2⟩ := info_parts info_rslot
  obtain ⟨w1, hw1⟩ : ∃ w1, w.alloc (.cells (kcells x).toArray 66) = w1 := ⟨_, rfl⟩
  have hm1 : Mods [] w w1 := by rw [← hw1]; exact (Mods.refl _ _).alloc _
  have hB1 : Blk w1 w.heap.size 66 (kcells x) := by rw [← hw1]; exact Blk.new w 66 _
  have hd := Lib.hid (rDrop11_any (hr.keep hm1 (fun _ _ => by simp)) hsm hcap x.addr)
  have HM1 := Lib.hid hm1
  have HB1 := Lib.hid hB1
  have b0 := hB1.cell (i := 0) (v := .int .i64 x.addr) rfl
  have hol := others_len (R := R) (a := x.addr)
  simp only [kcells] at hw1
  clear hr hm1 hB1
  unfold kcells
  go_enter Try.func23, Try.ntmps23
  go_wp2_with fail
  clear hw1 b0
  refine hd.out.mono ?_
  rintro y w2 ⟨u, rfl, hown, hm2⟩
  obtain ⟨A2, cap2, rfl, hrow2, hc2, hA2⟩ := owns5 hown
  have HR2 := Lib.hid hrow2
  have HM2 := Lib.hid (HM1.out.trans hm2 (by simp))
  have HB2 := HB1.out.keep hm2 (by simp)
  have b0 := HB2.cell (i := 0) (v := .int .i64 x.addr) rfl
  have b1 := HB2.cell (i := 1) (v := .int .u64 x.gen) rfl
  have b2 := HB2.cell (i := 2) (v := .int .u32 x.sum) rfl
  have b3 := HB2.cell (i := 3) (v := .int .u8 x.kind) rfl
  have b4 := HB2.cell (i := 4) (v := .string x.pay) rfl
  clear hrow2 hm2 HB2 hown hd HB1 HM1
  generalize hOO : others x.addr R = O at *
  have HOO := Lib.hid hOO
  clear hOO
  go_wp2_with fail
  obtain ⟨w3, hw3⟩ : ∃ w3, w2.alloc (.cells #[.int .i64 x.addr, .int .u64 x.gen, .int .u32 x.sum, .int .u8 x.kind, .string x.pay] 66) = w3 := ⟨_, rfl⟩
  rw [hw3]
  have hm3 : Mods [] w2 w3 := by rw [← hw3]; exact (Mods.refl _ _).alloc _
  have hB3 : Blk w3 w2.heap.size 66 (kcells x) := by rw [← hw3]; exact Blk.new w2 66 (kcells x)
  have hown3 : w3.ownsRow w2.heap.size 66 5 (.slice (some ⟨w2.heap.size, 0, none⟩) 1 1) 1 (kRow [x]) := by
    refine ⟨rfl, .inr ⟨w2.heap.size, 1, (kcells x).toArray, rfl, Nat.le_refl _, hB3, Nat.le_refl _, by decide, rfl, ?_⟩⟩
    simp [kRow, kcells]
  have H3 := Lib.hid (And.intro hown3 hm3)
  clear hw3 hm3 hB3 hown3 b0 b1 b2 b3 b4
  go_loopw [7, 8] (fun ov iv wr => ∃ k : Nat, k ≤ O.length ∧ k + 1 ≤ n ∧ iv = .int .i64 k ∧ wr.ownsRow w2.heap.size 66 5 ov (k + 1) (kRow (x :: O.take k)) ∧ Mods [] w2 wr) (fun _ iv _ => O.length - (intOf iv).toNat)
  case atStart => exact ⟨0, Nat.zero_le _, by omega, rfl, H3.out.1, H3.out.2⟩
  case round =>
    obtain ⟨k, hk, hkn, rfl, hown, hm⟩ := hrel
    clear H3
    have hfin : (k = O.length ∨ k + 1 = n) → putK n R x = x :: O.take k ∧ (x :: O.take k).length = k + 1 := by
      intro h
      refine ⟨?_, by simp; omega⟩
      unfold putK
      rw [HOO.out]
      congr 1
      rcases h with rfl | h
      · rw [List.take_of_length_le (by omega), List.take_of_length_le (by omega)]
      · congr 1; omega
    have HFN := Lib.hid hfin
    have HO := Lib.hid hown
    obtain ⟨sa, sc, rfl⟩ : ∃ sa sc, u7 = .slice sa (k + 1) sc := by
      obtain ⟨A3, cap3, rfl, _⟩ := owns5 hown
      exact ⟨_, _, rfl⟩
    clear hown hfin
    by_cases hlt : k < O.length
    · by_cases hlt2 : k + 1 < n
      · obtain ⟨z, hz⟩ : ∃ z, O[k]? = some z := ⟨_, List.getElem?_eq_getElem hlt⟩
        obtain ⟨b, off, rfl, d0, d1, d2, d3, d4⟩ := kRow_at (HR2.out.keep hm (fun _ _ => by simp)) hz
        have ht : O.take (k + 1) = O.take k ++ [z] := by rw [List.take_add_one, hz]; rfl
        have HM := Lib.hid hm
        have HT := Lib.hid ht
        have hsz := hm.size
        have hsz2 := HM2.out.size
        clear hm hz ht
        go_wp2_with (at_builtin; refine wpList_append_own _ rfl (.tmp 27) (.tmp 32) 61 rfl w2.heap.size 66 i0 (.agg #[.int .i64 0, .int .u64 0, .int .u32 0, .int .u8 0, .string ⟨#[]⟩]) 5 40 Try.underlying61 hi0 hz0 hz1 hz2 rfl (by decide) _ _ _ rfl (HO.out.alloc _) ⟨wr.heap.size, 0, none⟩ 1 1 (kcells z) rfl rfl (fun j u hj => by rw [addr_add0]; exact (Blk.new wr 66 (kcells z)).cell hj) (by simp [kcells, Value.oneCell']) (by unfold maxLen; omega) (by omega) (by simp; omega) ?_; intro v1 w4 hown1 hg1 _)
        have hm4 : Mods [] w2 w4 := (HM.out.alloc _).grown hg1 (fun q hq => .inr (HO.out.lt q hq).1)
        have HO1 := Lib.hid hown1
        clear hown1 hg1
        go_roundw
        case rel =>
          refine ⟨k + 1, by omega, by omega, by go_num, ?_, hm4⟩
          have e1 : kRow (x :: (O.take k ++ [z])) = kRow (x :: O.take k) ++ kcells z := by unfold kRow; simp
          rw [HT.out, e1]
          exact HO1.out
        case measure => simp [intOf]; omega
      · have HE := Lib.hid (HFN.out (.inr (by omega)))
        have HM := Lib.hid hm
        clear hm
        go_wp2_with fail
        go_ret
        exact ⟨_, rfl, by rw [HE.out.1, HE.out.2]; exact owns5_base HO.out HM2.out.size, HM2.out.trans HM.out (by simp)⟩
    · have HE := Lib.hid (HFN.out (.inl (by omega)))
      have HM := Lib.hid hm
      clear hm
      go_wp2_with fail
      go_ret
      exact ⟨_, rfl, by rw [HE.out.1, HE.out.2]; exact owns5_base HO.out HM2.out.size, HM2.out.trans HM.out (by simp)⟩

theorem results_tct {fn : Func} {a p b : Tmp} {ty : TypeId} (h : fn.results = #[.tmp a, .cell p ty, .tmp b]) {tmps : Array Value} {P : Program} {w : World} {ad : Addr} {v : Value} (hp : tmps.getD p undef = .pointer (some ad)) (hl : (loadVar ty ad).run P w = .ok v w) :
    (results fn tmps).run P w = .ok (.tuple #[tmps.getD a undef, v, tmps.getD b undef]) w := by
  have e : (results fn tmps).run P w = ((asAddr (tmps.getD p undef)).run P w).andThen fun ad w1 => ((loadVar ty ad).run P w1).andThen fun v w2 => .ok (.tuple #[tmps.getD a undef, v, tmps.getD b undef]) w2 := by
    simp only [results, h]
    simp [Sem.run_bind, Result.andThen]
  rw [e, hp]
  simp only [asAddr, Sem.run_pure, Result.andThen_ok, hl]

theorem find_none_take {R : List Kept} {p : Kept → Bool} {k : Nat} {x : Kept} (hn : ∀ y ∈ R.take k, p y = false) (hx : R[k]? = some x) (hp : p x = true) : R.find? p = some x := by
  have hk := (List.getElem?_eq_some_iff.1 hx).1
  have e : R = R.take k ++ x :: R.drop (k + 1) := by
    have := List.take_append_drop k R
    rw [List.drop_eq_getElem_cons hk] at this
    rw [show R[k] = x by have := List.getElem?_eq_getElem hk; rw [hx] at this; exact (Option.some.inj this).symm] at this
    exact this.symm
  rw [e, List.find?_append, List.find?_eq_none.2 (fun y hy => by rw [hn y hy]; simp)]
  simp [hp]

theorem load_rslot {w : World} {b : Nat} {x : Kept} (h : Blk w b 66 (kcells x)) : (loadVar 66 ⟨b, 0, none⟩).run Try.prog w = .ok (.agg #[.int .i64 x.addr, .int .u64 x.gen, .int .u32 x.sum, .int .u8 x.kind, .string x.pay]) w := by
  have c0 := h.cell (i := 0) (v := .int .i64 x.addr) rfl
  have c1 := h.cell (i := 1) (v := .int .u64 x.gen) rfl
  have c2 := h.cell (i := 2) (v := .int .u32 x.sum) rfl
  have c3 := h.cell (i := 3) (v := .int .u8 x.kind) rfl
  have c4 := h.cell (i := 4) (v := .string x.pay) rfl
  go_simp
/-- Five cells written. -/
theorem set5 {w : World} {b : Nat} {l : List Value} (h : Blk w b 66 l) (hl : l.length = 5) (x : Kept) {L : List Nat} {w0 : World} (hm : Mods L w0 w) (hb : b ∈ L ∨ w0.heap.size ≤ b) :
    Blk (((((w.setCell ⟨b, 0, none⟩ (.int .i64 x.addr)).setCell ⟨b, 1, none⟩ (.int .u64 x.gen)).setCell ⟨b, 2, none⟩ (.int .u32 x.sum)).setCell ⟨b, 3, none⟩ (.int .u8 x.kind)).setCell ⟨b, 4, none⟩ (.string x.pay)).drew b 66 (kcells x) ∧
    Mods L w0 (((((w.setCell ⟨b, 0, none⟩ (.int .i64 x.addr)).setCell ⟨b, 1, none⟩ (.int .u64 x.gen)).setCell ⟨b, 2, none⟩ (.int .u32 x.sum)).setCell ⟨b, 3, none⟩ (.int .u8 x.kind)).setCell ⟨b, 4, none⟩ (.string x.pay)).drew := by
  have hd : ∀ {W : World} {l' : List Value}, Blk W b 66 l' → Blk W.drew b 66 l' := fun h => h
  have h5 := (((((h.set 0 (.int .i64 x.addr)).set 1 (.int .u64 x.gen)).set 2 (.int .u32 x.sum)).set 3 (.int .u8 x.kind)).set 4 (.string x.pay))
  have hl5 : ((((l.set 0 (.int .i64 x.addr)).set 1 (.int .u64 x.gen)).set 2 (.int .u32 x.sum)).set 3 (.int .u8 x.kind)).set 4 (.string x.pay) = kcells x := by
    cases l with
    | nil => simp at hl
    | cons a0 l => cases l with
      | nil => simp at hl
      | cons a1 l => cases l with
        | nil => simp at hl
        | cons a2 l => cases l with
          | nil => simp at hl
          | cons a3 l => cases l with
            | nil => simp at hl
            | cons a4 l => cases l with
              | nil => rfl
              | cons a5 l => simp at hl
  rw [hl5] at h5
  exact ⟨hd h5, (((((hm.setCell (p := ⟨b, 0, none⟩) hb _).setCell (p := ⟨b, 1, none⟩) hb _).setCell (p := ⟨b, 2, none⟩) hb _).setCell (p := ⟨b, 3, none⟩) hb _).setCell (p := ⟨b, 4, none⟩) hb _).drew⟩

def zkept : Kept := ⟨0, 0, 0, 0, ⟨#[]⟩⟩
def zcells : List Value := [.int .i64 0, .int .u64 0, .int .u32 0, .int .u8 0, .string ⟨#[]⟩]
set_option maxRecDepth 100000 in
set_option maxHeartbeats 3200000 in
theorem rGet11_miss {w : World} {A : Option Addr} {cap : Nat} {R : List Kept} (hr : Row w A (kRow R)) (hsm : R.length < 10000) (a : Int) (g s : Nat) (hno : getK R a g s = none) :
    Calls Try.prog 24 #[.slice A R.length cap, .int .i64 a, .int .u64 g, .int .u32 s] w fun e w' => e = .returned (.tuple #[.slice A R.length cap, .agg zcells.toArray, .bool false]) ∧ Mods [] w w' := by
  obtain ⟨w1, hw1⟩ : ∃ w1, w.alloc (.cells zcells.toArray 66) = w1 := ⟨_, rfl⟩
  have hm1 : Mods [] w w1 := by rw [← hw1]; exact (Mods.refl _ _).alloc _
  have hB1 : Blk w1 w.heap.size 66 zcells := by rw [← hw1]; exact Blk.new w 66 _
  have HR := Lib.hid (hr.keep hm1 (fun _ _ => by simp))
  have H1 := Lib.hid (And.intro hm1 hB1)
  have HNO := Lib.hid hno
  simp only [zcells] at hw1
  clear hr hm1 hB1 hno
  generalize hL : R.length = len at *
  have HL := Lib.hid hL
  clear hL
  go_enter Try.func24, Try.ntmps24
  go_wp2_with fail
  clear hw1
  go_loopw [11] (fun iv wr => ∃ k : Nat, k ≤ len ∧ iv = .int .i64 k ∧ wr = w1) (fun iv _ => len - (intOf iv).toNat)
  case atStart => exact ⟨0, Nat.zero_le _, rfl, rfl⟩
  case round =>
    obtain ⟨k, hk, rfl, rfl⟩ := hrel
    by_cases hlt : k < len
    · obtain ⟨x, hx⟩ : ∃ x, R[k]? = some x := ⟨_, List.getElem?_eq_getElem (by rw [HL.out]; exact hlt)⟩
      obtain ⟨b, off, rfl, d0, d1, d2, d3, d4⟩ := kRow_at HR.out hx
      have hnx : ¬ (x.addr = a ∧ x.gen = g ∧ x.sum = s) := fun h => by
        have := HNO.out
        unfold getK at this
        rw [List.find?_eq_none] at this
        exact this x (List.mem_of_getElem? hx) (Kept.is_iff.2 h)
      clear hx d3 d4
      by_cases h1 : x.addr = a
      · by_cases h2 : x.gen = g
        · have h3 : ¬ x.sum = s := fun e => hnx ⟨h1, h2, e⟩
          clear hnx
          have q1 : (x.addr == a) = true := by simp [h1]
          have q2 : ((x.gen : Int) == (g : Int)) = true := by simp [h2]
          have q3 : ((x.sum : Int) == (s : Int)) = false := by simp; omega
          go_wp2_with fail
          go_roundw
          case rel => exact ⟨k + 1, by omega, by simp, by first | rfl | trivial⟩
          case measure => simp [intOf]; omega
        · clear hnx
          have q1 : (x.addr == a) = true := by simp [h1]
          have q2 : ((x.gen : Int) == (g : Int)) = false := by simp; omega
          go_wp2_with fail
          go_roundw
          case rel => exact ⟨k + 1, by omega, by simp, by first | rfl | trivial⟩
          case measure => simp [intOf]; omega
      · clear hnx
        have q1 : (x.addr == a) = false := by simp [h1]
        go_wp2_with fail
        go_roundw
        case rel => exact ⟨k + 1, by omega, by simp, by first | rfl | trivial⟩
        case measure => simp [intOf]; omega
    · obtain rfl : k = len := by omega
      go_wp2_with fail
      obtain ⟨W9, hW9⟩ : ∃ W9, wr.alloc (.cells #[.int .i64 0, .int .u64 0, .int .u32 0, .int .u8 0, .string ⟨#[]⟩] 66) = W9 := ⟨_, rfl⟩
      have hm9 : Mods [] wr W9 := by rw [← hW9]; exact (Mods.refl _ _).alloc _
      have hn9 : Blk W9 wr.heap.size 66 zcells := by rw [← hW9]; exact Blk.new wr 66 zcells
      have z9 := H1.out.2.keep hm9 (by simp)
      have HM9 := Lib.hid (H1.out.1.trans hm9 (by simp))
      have hb9 := z9
      have hsz9 := z9.lt
      rw [hW9]
      clear hW9 hm9
      have c0 := z9.cell (i := 0) (v := .int .i64 0) rfl
      have c1 := z9.cell (i := 1) (v := .int .u64 0) rfl
      have c2 := z9.cell (i := 2) (v := .int .u32 0) rfl
      have c3 := z9.cell (i := 3) (v := .int .u8 0) rfl
      have c4 := z9.cell (i := 4) (v := .string ⟨#[]⟩) rfl
      have f0 := z9.free 0
      have f1 := z9.free 1
      have f2 := z9.free 2
      have f3 := z9.free 3
      have f4 := z9.free 4
      have e0 := hn9.cell (i := 0) (v := .int .i64 0) rfl
      have e1 := hn9.cell (i := 1) (v := .int .u64 0) rfl
      have e2 := hn9.cell (i := 2) (v := .int .u32 0) rfl
      have e3 := hn9.cell (i := 3) (v := .int .u8 0) rfl
      have e4 := hn9.cell (i := 4) (v := .string ⟨#[]⟩) rfl
      clear z9 hn9
      have HB9 := Lib.hid (And.intro hb9 hsz9)
      clear hb9 hsz9
      go_region
      all_goals
        obtain ⟨hb, hmm⟩ := set5 (b := w.heap.size) HB9.out.1 rfl zkept HM9.out (.inr (Nat.le_refl _))
        simp only [zkept, Int.natCast_zero] at hb hmm
        have HL5 := Lib.hid (load_rslot (x := zkept) hb)
        have HMM := Lib.hid hmm
        clear hb hmm c0 c1 c2 c3 c4 f0 f1 f2 f3 f4 e0 e1 e2 e3 e4
        go_wp2_with fail
        refine bodyPost_ret (results_tct rfl rfl HL5.out) rfl ?_
        exact ⟨rfl, HMM.out⟩
end Go.Proofs.Ytahaecieklfhkaa
