/- ModelEqual: a model is equal to its own entries, and to no others: for every list of updates, and whatever is changed in the entries. -/
import Derived.Test.YtahaecieklfhkaaModelEq0
import Derived.Test.YtahaecieklfhkaaModelEq2
import Derived.Test.YtahaecieklfhkaaOwn
namespace Go.Proofs.Ytahaecieklfhkaa
open Go.ChangeShapes Go.WideShapes Go.ChangeAt Go.RowKit

theorem mEqual_self {W : World} {b mb : Nat} {E : Ents} (h : IsM W b mb E) {n d : Nat} (hn : E.length = n) (hsm : n < 1000000) {B : Option Addr} (hB : Row W B (eRow E)) :
    Calls Try.prog 15 #[.pointer (some ⟨b, 0, none⟩), .slice B n d] W fun e w' => e = .returned (.bool true) ∧ Mods [] W w' := by
  subst hn
  exact (mEqual_any h hsm hB hsm).mono fun e w' ⟨he, hm⟩ => ⟨by rw [he]; simp, hm⟩
theorem mEqual_ne {W : World} {b mb : Nat} {E M : Ents} (h : IsM W b mb E) (hsm : E.length < 1000000) {n d : Nat} (hn : M.length = n) (hm : n < 1000000) {B : Option Addr} (hB : Row W B (eRow M)) (hne : E ≠ M) :
    Calls Try.prog 15 #[.pointer (some ⟨b, 0, none⟩), .slice B n d] W fun e w' => e = .returned (.bool false) ∧ Mods [] W w' := by
  subst hn
  exact (mEqual_any h hsm hB hm).mono fun e w' ⟨he, hm⟩ => ⟨by rw [he]; simp [hne], hm⟩
theorem mLen_n {W : World} {b mb n : Nat} {E : Ents} (h : IsM W b mb E) (hn : E.length = n) : Calls Try.prog 16 #[.pointer (some ⟨b, 0, none⟩)] W fun e w' => e = .returned (.int .i64 (n : Nat)) ∧ Mods [] W w' := by
  subst hn; exact mLen_any h
theorem set_same {α : Type} {l : List α} {i : Nat} {v : α} (h : l[i]? = some v) : l.set i v = l := by
  obtain ⟨hi, rfl⟩ := List.getElem?_eq_some_iff.1 h
  exact List.set_getElem_self hi
theorem eRow_get {E : Ents} {k : Nat} {x : ByteArray × ByteArray} (h : E[k]? = some x) (rest : List Value) : (eRow E ++ rest)[k * 2]? = some (.string x.1) ∧ (eRow E ++ rest)[k * 2 + 1]? = some (.string x.2) := by
  have h0 : (eRow E)[k * 2 + 0]? = (ecells x)[0]? := flat_get ecells ecells_len h (by omega)
  have h1 : (eRow E)[k * 2 + 1]? = (ecells x)[1]? := flat_get ecells ecells_len h (by omega)
  constructor
  · rw [List.getElem?_append_left]
    · exact h0
    · exact (List.getElem?_eq_some_iff.1 (show (eRow E)[k * 2]? = some (.string x.1) from h0)).1
  · rw [List.getElem?_append_left]
    · exact h1
    · exact (List.getElem?_eq_some_iff.1 (show (eRow E)[k * 2 + 1]? = some (.string x.2) from h1)).1
theorem eRow_setV {E : Ents} {k : Nat} {x : ByteArray × ByteArray} (h : E[k]? = some x) (v : ByteArray) (rest : List Value) : (eRow E ++ rest).set (k * 2 + 1) (.string v) = eRow (E.set k (x.1, v)) ++ rest := by
  rw [eRow_set h (x.1, v) rest]
  show _ = ((eRow E ++ rest).set (k * 2) (.string x.1)).set (k * 2 + 1) (.string v)
  rw [set_same (eRow_get h rest).1]
theorem eRow_setK {E : Ents} {k : Nat} {x : ByteArray × ByteArray} (h : E[k]? = some x) (v : ByteArray) (rest : List Value) : (eRow E ++ rest).set (k * 2) (.string v) = eRow (E.set k (v, x.2)) ++ rest := by
  rw [eRow_set h (v, x.2) rest]
  show _ = ((eRow E ++ rest).set (k * 2) (.string v)).set (k * 2 + 1) (.string x.2)
  refine (set_same ?_).symm
  rw [List.getElem?_set_ne (by omega)]
  exact (eRow_get h rest).2
/-- The two slices at which an entry is taken out. -/
theorem cut_slices {g n cap k y : Nat} (hy : k + 1 = y) (hk : k < n) (hn : n ≤ cap) {E : Ents} (hE : E.length = n) (rest : List Value) :
    (∀ W : World, (Instr.slice 36 (.slice (some ⟨g, 0, none⟩) n cap) none (some (.int .i64 k)) (some (.int .i64 k))).run Try.prog W = .ok (.slice (some ⟨g, 0, none⟩) k k) W) ∧
    ∃ T : Addr, (∀ W : World, (Instr.slice 36 (.slice (some ⟨g, 0, none⟩) n cap) (some (.int .i64 (y : Nat))) none none).run Try.prog W = .ok (.slice (some T) (n - y) (cap - y)) W) ∧
      ∀ W : World, Blk W g 42 (eRow E ++ rest) → ∀ j u, (eRow (E.drop y))[j]? = some u → W.cell? (T.add j) = some u := by
  subst hy
  obtain ⟨i, hi, _, hi2, _⟩ := info_parts info_entry
  refine ⟨fun W => ?_, if cap = k + 1 then ⟨g, 0, none⟩ else ⟨g, (k + 1) * 2, none⟩, fun W => ?_, fun W hB j u hj => ?_⟩
  · have hb : (0 : Int) ≤ k ∧ (k : Int) ≤ (cap : Int) := by omega
    simp [Instr.slice, run_underlying Try.underlying36, Instr.sliceBounds, Instr.sliceBound, asIntOf, hb, go_sem, sizeOf, typeInfo, hi, Addr.add]
    intro h; exfalso; omega
  · have hb : (0 : Int) ≤ ((k + 1 : Nat) : Int) ∧ ((k + 1 : Nat) : Int) ≤ (n : Int) := by omega
    have hb2 : (0 : Int) ≤ (k : Int) + 1 ∧ (k : Int) + 1 ≤ (n : Int) := by omega
    have h1 : ((k : Int) + 1).toNat = k + 1 := by omega
    simp [Instr.slice, run_underlying Try.underlying36, Instr.sliceBounds, Instr.sliceBound, asIntOf, hb2, h1, go_sem, sizeOf, typeInfo, hi, hi2, Addr.add]
    split <;> rfl
  · have hl : (eRow (E.take (k + 1))).length = (k + 1) * 2 := by rw [eRow_len, List.length_take]; omega
    have hjl := (List.getElem?_eq_some_iff.1 hj).1
    rw [eRow_len, List.length_drop] at hjl
    have hc : cap ≠ k + 1 := by omega
    rw [if_neg hc, addr_add]
    refine hB.cell ?_
    rw [← List.take_append_drop (k + 1) E, eRow_app, List.append_assoc, List.getElem?_append_right (by omega), hl, Nat.add_sub_cancel_left, List.getElem?_append_left (by rw [eRow_len, List.length_drop]; exact hjl)]
    exact hj
theorem info_up28 : (Try.prog.info? 27).map (fun i => (i.zero, i.size, i.bytes)) = some (some (.agg #[.int .u8 0, .string ⟨#[]⟩, .string ⟨#[]⟩, .int .u64 0]), 4, 48) := by kernel_rfl

set_option maxRecDepth 100000 in
set_option maxHeartbeats 6400000 in
theorem modelEqual_walk {W : World} {A : Option Addr} {len cap : Nat} (l : List Upd) (hl : l.length = len) (hlc : len ≤ cap) (hcm : cap ≤ maxLen) (hrow : Row W A (uRow l)) (hR : ∀ z ∈ l, upR z) (at_ turn : Nat) (hat : at_ < 256) (hturn : turn < 256) :
    Calls Try.prog 3 #[.slice A len cap, .int .u8 (at_ : Nat), .int .u8 (turn : Nat)] W fun e w' => e = .returned (.bool true) ∧ Mods [] W w' := by
  have HR := Lib.hid hrow
  have HL := Lib.hid (And.intro hl hR)
  clear hrow hl hR
  unfold maxLen at hcm
  obtain ⟨p, hp⟩ : ∃ p : Nat, min (len : Int) 20 = (p : Int) := ⟨min len 20, by omega⟩
  have hpl : p ≤ len := by omega
  have hp20 : p ≤ 20 := by omega
  obtain ⟨i28, hi28, _, _, _⟩ := info_parts info_up28
  have hsl := fun (k : Int) (h0 : 0 ≤ k) (h1 : k ≤ cap) (W : World) => run_prefix Try.prog 22 27 i28 A len cap k W Try.underlying22 hi28 h0 h1
  obtain ⟨i0, hi0, hz0, hz1, hz2⟩ := info_parts info_entry
  obtain ⟨q, hq⟩ : ∃ q : Nat, (turn : Int) % 4 = (q : Int) := ⟨turn % 4, by omega⟩
  have hq4 : q < 4 := by omega
  go_enter Try.func3, Try.ntmps3
  go_wp2_with fail
  refine (mNew_any _).mono ?_
  rintro x w1 ⟨b, mb, rfl, hI, hm1, hb, hmb⟩
  have H1 := Lib.hid (And.intro hI hm1)
  clear hI hm1
  go_wp2_with fail
  go_loopw [9, 10, 11, 21] (fun _ _ _ iv wr => ∃ (k : Nat) (E : Ents), k ≤ p ∧ iv = .int .i64 k ∧ E.length ≤ k ∧ IsM wr b mb E ∧ Mods [] W wr) (fun _ _ _ iv _ => p - (intOf iv).toNat)
  case atStart => exact ⟨0, [], Nat.zero_le _, rfl, Nat.le_refl _, H1.out.1, H1.out.2⟩
  case round =>
    obtain ⟨k, E, hk, rfl, hEl, hI, hm⟩ := hrel
    clear H1
    by_cases hkl : k < p
    · obtain ⟨x, hx⟩ : ∃ x, l[k]? = some x := ⟨_, List.getElem?_eq_getElem (by rw [HL.out.1]; omega)⟩
      have hxR := Lib.hid (HL.out.2 x (List.mem_of_getElem? hx))
      obtain ⟨bb, ob, rfl, c0, c1, c2, c3⟩ := uRow_at (HR.out.keep hm (fun _ _ => by simp)) hx
      have HI := Lib.hid hI
      have HM := Lib.hid hm
      have HE := Lib.hid hEl
      clear hI hm hx hEl
      go_wp2_with fail
      refine (of28_any x hxR.out).mono ?_
      rintro y w3 ⟨⟨k1, key1, val1, d1⟩, ⟨k2, key2, val2, d2⟩, rfl, hm3⟩
      have HI3 := Lib.hid ((HI.out.keep ((Mods.refl [] wr).alloc _) (by simp) (by simp)).keep hm3 (by simp) (by simp))
      have HM3 := Lib.hid ((HM.out.alloc _).trans hm3 (by simp))
      clear hm3 HI HM
      simp only [ucells]
      go_wp2_with fail
      refine (mUpdate_any (HI3.out.keep (L := []) ?hmx (by simp) (by simp)) ⟨k1, key1, val1, d1⟩).mono ?_
      case hmx => repeat (first | exact Mods.refl _ _ | apply Mods.alloc | (refine Mods.setCell ?_ (.inr (by simp)) _))
      rintro y w4 ⟨rfl, hI4, hm4⟩
      have HM4 : Hid (Mods [] W w4) := by
        refine Mods.trans (L1 := [mb]) ?_ hm4 (fun q hq => .inr (by rw [List.mem_singleton.1 hq]; exact hmb))
        repeat (first | exact HM3.out | apply Mods.alloc | (refine Mods.setCell ?_ (.inr (by have := HM3.out.size; simp; omega)) _))
      have HN : Hid (IsM w4 b mb (stepE E ⟨k1, key1, val1, d1⟩) ∧ (stepE E ⟨k1, key1, val1, d1⟩).length ≤ k + 1) := ⟨hI4, Nat.le_trans (stepE_len _ _) (by have := HE.out; omega)⟩
      clear hI4 hm4
      go_wp2_with fail
      go_roundw
      case rel => exact ⟨k + 1, _, by omega, by simp, HN.out.2, HN.out.1, HM4.out⟩
      case measure => simp [intOf]; omega
    · obtain rfl : k = p := by omega
      clear hsl
      obtain ⟨n, hn⟩ : ∃ n, E.length = n := ⟨_, rfl⟩
      have hn20 : n ≤ 20 := by omega
      have HI := Lib.hid hI
      have HM := Lib.hid hm
      have HN := Lib.hid hn
      clear hI hm hn hEl
      go_wp2_with fail
      refine (mScan_any HI.out (by have := HN.out; omega) ⟨#[]⟩ ⟨#[]⟩ 1000).mono ?_
      rintro y w3 ⟨u, rfl, hown, hm3⟩
      rw [scan_all E 1000 (by have := HN.out; omega), HN.out] at hown
      obtain ⟨A2, cap2, rfl, hrow2, hcap2, _⟩ := owns2 hown
      have HO := Lib.hid hown
      have HI3 := Lib.hid (HI.out.keep hm3 (by simp) (by simp))
      have HM3 := Lib.hid (HM.out.trans hm3 (by simp))
      have hbs := HM.out.size
      have hlt := HI.out.lt
      have HRw := Lib.hid hrow2
      clear hown hm3 HI HM hrow2
      go_wp2_with fail
      refine (w28_any _).mono ?_
      rintro y w4 ⟨rfl, hm4⟩
      have HI4 := Lib.hid (HI3.out.keep hm4 (by simp) (by simp))
      have HM4 := Lib.hid (HM3.out.trans hm4 (by simp))
      have HO4 := Lib.hid (owns_keepM HO.out hm4 (by simp))
      have HRw4 := Lib.hid (HRw.out.keep hm4 (fun _ _ => by simp))
      clear hm4 HI3 HM3 HO HRw
      go_wp2_with fail
      refine (mEqual_self HI4.out HN.out (by omega) HRw4.out).mono ?_
      rintro y w5 ⟨rfl, hm5⟩
      have HI5 := Lib.hid (HI4.out.keep hm5 (by simp) (by simp))
      have HM5 := Lib.hid (HM4.out.trans hm5 (by simp))
      have HO5 := Lib.hid (owns_keepM HO4.out hm5 (by simp))
      clear hm5 HI4 HM4 HO4 HRw4
      go_wp2_with fail
      refine (mLen_n HI5.out HN.out).mono ?_
      rintro y w6 ⟨rfl, hm6⟩
      have HI6 := Lib.hid (HI5.out.keep hm6 (by simp) (by simp))
      have HM6 := Lib.hid (HM5.out.trans hm6 (by simp))
      have HO6 := Lib.hid (owns_keepM HO5.out hm6 (by simp))
      clear hm6 HI5 HM5 HO5
      by_cases h0 : n = 0
      · subst h0
        go_wp2_with fail
        refine (mEqual_ne (n := 1) (M := [(⟨#[107]⟩, ⟨#[]⟩)]) (HI6.out.keep ((Mods.refl [] w6).alloc _) (by simp) (by simp)) (by have := HN.out; omega) rfl (by omega) (.inr ⟨w6.heap.size, 0, rfl, fun i u hi => by rw [Nat.zero_add]; exact (Blk.new w6 42 _).cell hi⟩) (by intro e; have := HN.out; rw [e] at this; simp at this)).mono ?_
        rintro y w7 ⟨rfl, hm7⟩
        have HM7 := Lib.hid ((HM6.out.alloc _).trans hm7 (by simp))
        clear hm7
        go_wp2_with fail
        go_ret
        exact ⟨rfl, HM7.out⟩
      · obtain ⟨kk, hkk⟩ : ∃ kk : Nat, (at_ : Int) % (n : Int) = (kk : Int) := ⟨at_ % n, by omega⟩
        have hkn : kk < n := by
          have := Int.emod_lt_of_pos (at_ : Int) (show (0 : Int) < n by omega)
          omega
        obtain ⟨z, hz⟩ : ∃ z, E[kk]? = some z := ⟨_, List.getElem?_eq_getElem (by rw [HN.out]; exact hkn)⟩
        obtain ⟨g, cap3, rest, hsh, hgb, hB, _, _⟩ := owns2_blk HO6.out (by omega)
        injection hsh with hsh1 _ hsh2
        subst hsh1
        obtain ⟨hzb1, hzb2⟩ := HI6.out.key z (List.mem_of_getElem? hz)
        have c1 := hB.cell (eRow_get hz rest).1
        have c2 := hB.cell (eRow_get hz rest).2
        have f1 := hB.free (kk * 2)
        have f2 := hB.free (kk * 2 + 1)
        obtain ⟨yy, hyy⟩ : ∃ yy, kk + 1 = yy := ⟨_, rfl⟩
        have hwr : IntKind.i64.wrap ((kk : Int) + 1) = (yy : Int) := by rw [IntKind.wrap_i64]; omega
        have hcs := Lib.hid (cut_slices (g := g) hyy hkn hcap2 HN.out rest)
        have HB := Lib.hid hB
        have HZ := Lib.hid hz
        clear hB hz hsh2
        have hq' : q = 0 ∨ q = 1 ∨ q = 2 ∨ q = 3 := by omega
        rcases hq' with rfl | rfl | rfl | rfl
        · go_wp2_with fail
          obtain ⟨w7, hw7⟩ : ∃ w7, w6.setCell ⟨g, kk * 2 + 1, none⟩ (.string (z.2 ++ ⟨#[120]⟩)) = w7 := ⟨_, rfl⟩
          have hm7 : Mods [g] w6 w7 := by rw [← hw7]; exact (Mods.refl _ _).setCell (.inl (by simp)) _
          have hB7 : Blk w7 g 42 (eRow (E.set kk (z.1, z.2 ++ ⟨#[120]⟩)) ++ rest) := by rw [← hw7, ← eRow_setV HZ.out]; exact HB.out.set _ _
          rw [hw7]
          clear hw7
          refine (mEqual_ne (M := E.set kk (z.1, z.2 ++ ⟨#[120]⟩)) (HI6.out.keep hm7 (by simp; omega) (by simp; omega)) (by have := HN.out; omega) (by rw [List.length_set]; exact HN.out) (by omega) (blk_row hB7) (set_ne HZ.out (by intro e; exact snoc_ne _ (congrArg Prod.snd e)))).mono ?_
          rintro y w8 ⟨rfl, hm8⟩
          have HM8 : Hid (Mods [] W w8) := (HM6.out.trans hm7 (fun q hq => .inr (by rw [List.mem_singleton.1 hq]; omega))).trans hm8 (by simp)
          clear hm7 hm8
          go_wp2_with fail
          go_ret
          exact ⟨rfl, HM8.out⟩
        · go_wp2_with fail
          obtain ⟨w7, hw7⟩ : ∃ w7, w6.setCell ⟨g, kk * 2, none⟩ (.string (z.1 ++ ⟨#[120]⟩)) = w7 := ⟨_, rfl⟩
          have hm7 : Mods [g] w6 w7 := by rw [← hw7]; exact (Mods.refl _ _).setCell (.inl (by simp)) _
          have hB7 : Blk w7 g 42 (eRow (E.set kk (z.1 ++ ⟨#[120]⟩, z.2)) ++ rest) := by rw [← hw7, ← eRow_setK HZ.out]; exact HB.out.set _ _
          rw [hw7]
          clear hw7
          refine (mEqual_ne (M := E.set kk (z.1 ++ ⟨#[120]⟩, z.2)) (HI6.out.keep hm7 (by simp; omega) (by simp; omega)) (by have := HN.out; omega) (by rw [List.length_set]; exact HN.out) (by omega) (blk_row hB7) (set_ne HZ.out (by intro e; exact snoc_ne _ (congrArg Prod.fst e)))).mono ?_
          rintro y w8 ⟨rfl, hm8⟩
          have HM8 : Hid (Mods [] W w8) := (HM6.out.trans hm7 (fun q hq => .inr (by rw [List.mem_singleton.1 hq]; omega))).trans hm8 (by simp)
          clear hm7 hm8
          go_wp2_with fail
          go_ret
          exact ⟨rfl, HM8.out⟩
        · obtain ⟨hs1, T, hs2, hT⟩ := hcs.out
          have hTW := Lib.hid hT
          clear hT c1 c2 f1 f2
          go_wp2_with fail
          go_region_law (refine step_append_full _ (by rfl) (.tmp 91) (.tmp 95) 36 (by rfl) 42 i0 (.agg #[.string ⟨#[]⟩, .string ⟨#[]⟩]) 2 32 Try.underlying36 hi0 hz0 hz1 hz2 (by rfl) (by decide) ⟨g, 0, none⟩ kk (eRow (E.take kk)) (by go_simp) (by have := HN.out; rw [eRow_len, List.length_take]; omega) (blk_row (rest := eRow (E.drop kk) ++ rest) (by rw [← List.append_assoc, ← eRow_app, List.take_append_drop]; exact HB.out)) T (n - yy) (cap2 - yy) (eRow (E.drop yy)) (by go_simp) (by have := HN.out; rw [eRow_len, List.length_drop]; omega) (hTW.out _ HB.out) (by unfold maxLen; omega) (by omega) ?_; intro A7 cap7 w7 hrow7 hg7)
          have hm7 : Mods [] w6 w7 := Mods.grown (by repeat (first | exact Mods.refl _ _ | apply Mods.drew | apply Mods.drewN)) hg7 (fun q hq => by cases hq)
          rw [← eRow_app] at hrow7
          have HR7 := Lib.hid hrow7
          clear hg7 hrow7 hs1 hs2
          have hMl : (E.take kk ++ E.drop yy).length = kk + (n - yy) := by have := HN.out; rw [List.length_append, List.length_take, List.length_drop]; omega
          have HMl := Lib.hid hMl
          clear hMl
          go_wp2_with fail
          refine (mEqual_ne (M := E.take kk ++ E.drop yy) (HI6.out.keep hm7 (by simp) (by simp)) (by have := HN.out; omega) HMl.out (by omega) HR7.out (by intro e; have h1 := HMl.out; rw [← e, HN.out] at h1; omega)).mono ?_
          rintro y w8 ⟨rfl, hm8⟩
          have HM8 : Hid (Mods [] W w8) := (HM6.out.trans hm7 (by simp)).trans hm8 (by simp)
          clear hm7 hm8
          go_wp2_with fail
          go_ret
          exact ⟨rfl, HM8.out⟩
        · go_wp2_with (at_builtin; refine wpList_append_own _ rfl (.tmp 99) (.tmp 101) 36 rfl wr.heap.size 42 i0 (.agg #[.string ⟨#[]⟩, .string ⟨#[]⟩]) 2 32 Try.underlying36 hi0 hz0 hz1 hz2 rfl (by decide) _ _ _ rfl (HO6.out.alloc _) ⟨w6.heap.size, 0, none⟩ 1 1 (ecells (⟨#[122, 122, 122]⟩, ⟨#[]⟩)) rfl rfl (fun j u hj => by rw [addr_add0]; exact (Blk.new w6 42 (ecells (⟨#[122, 122, 122]⟩, ⟨#[]⟩))).cell hj) (by simp [ecells, Value.oneCell']) (by unfold maxLen; omega) (by omega) (by have := HB.out.lt; simp; omega) ?_; intro v1 w7 hown1 hg1 _)
          obtain ⟨A7, cap7, rfl, hrow7, _, _⟩ := owns2 hown1
          have hm7 : Mods [g] w6 w7 := ((Mods.refl _ _).alloc _).grown hg1 (fun q hq => .inl (by cases hq; simp))
          have HR7 : Hid (Row w7 A7 (eRow (E ++ [(⟨#[122, 122, 122]⟩, ⟨#[]⟩)]))) := by rw [eRow_app]; exact hrow7
          clear hg1 hrow7 hown1
          have hMl : (E ++ [((⟨#[122, 122, 122]⟩, ⟨#[]⟩) : ByteArray × ByteArray)]).length = n + 1 := by have := HN.out; rw [List.length_append, this]; rfl
          have HMl := Lib.hid hMl
          clear hMl
          go_wp2_with fail
          refine (mEqual_ne (M := E ++ [(⟨#[122, 122, 122]⟩, ⟨#[]⟩)]) (HI6.out.keep hm7 (by simp; omega) (by simp; omega)) (by have := HN.out; omega) HMl.out (by omega) HR7.out (by intro e; have h1 := HMl.out; rw [← e, HN.out] at h1; omega)).mono ?_
          rintro y w8 ⟨rfl, hm8⟩
          have HM8 : Hid (Mods [] W w8) := (HM6.out.trans hm7 (fun q hq => .inr (by rw [List.mem_singleton.1 hq]; omega))).trans hm8 (by simp)
          clear hm7 hm8
          go_wp2_with fail
          go_ret
          exact ⟨rfl, HM8.out⟩
theorem readables_modelEqual : ∀ t ∈ (#[22, 5, 5] : Array TypeId).toList, Try.prog.readableRec t = true ∧ t < Try.prog.types.size := by
  intro t ht
  simp only [List.mem_cons, List.not_mem_nil, or_false] at ht
  rcases ht with rfl | rfl | rfl
  all_goals exact ⟨by kernel_rfl, of_decide_eq_true (by kernel_rfl)⟩

set_option maxRecDepth 100000 in
theorem modelEqual_contract (H : Type) (enc : TypeId × Value → H) (W : World) (base : Nat) (args : Array Value) (ds gs : List (DataW H)) (before : List MemPlace)
    (hval : ∀ (j : Nat) t v, Try.f3.params[j]? = some t → args[j]? = some v → Value.okWide Try.prog W .any base t v)
    (hW : DataW.Whole enc Try.prog Try.f3.params.toList Rows.modelEqualSpec.vars false W args.toList ds gs before)
    (hsz : (DataW.weightsEach Try.prog (Try.f3.params.toList ++ Rows.modelEqualSpec.plain.varTypes Try.prog) (ds ++ gs)).all (· ≤ reachBytes) = true) :
    Calls Try.prog 3 args W fun e W' => ∃ v, e = .returned v ∧ Rows.modelEqualSpec.post enc Try.prog Try.f3 false true false false W args v W' := by
  have hW' := hW
  obtain ⟨p, q, hA0, hV, he, hfz, hnd⟩ := hW
  have hA : DataW.TrodAll enc Try.prog W 0 (fun _ => true) true Try.f3.params.toList args.toList ds p := hA0
  rw [Try.params3] at hA hval hsz
  obtain ⟨v0, vs0, d0, ds0, p0, q0, hargs, rfl, rfl, h0, r0⟩ := trodAll_cons hA
  obtain ⟨v1, vs1, d1, ds1, p1, q1, rfl, rfl, rfl, h1, r1⟩ := trodAll_cons r0
  obtain ⟨v2, vs2, d2, ds2, p2, q2, rfl, rfl, rfl, h2, r2⟩ := trodAll_cons r1
  obtain ⟨rfl, rfl, rfl⟩ := trodAll_nil r2
  obtain rfl : args = #[v0, v1, v2] := by cases args; simp_all
  have hs_l : ∀ n ∈ d0.weights Try.prog 22, n ≤ reachBytes := fun n hn => by simpa using List.all_eq_true.1 hsz n (DataW.weights_mem_each (j := 0) (t := 22) (d := d0) rfl rfl n hn)
  obtain ⟨lA, lLen, lCap, l, rfl, lRow, lL, lC, lM, lR⟩ := ups_open (hval 0 22 v0 rfl rfl) h0 hs_l
  obtain ⟨at', rfl, rfl, rfl, wat⟩ := open_int Try.underlying5 (hval 1 5 v1 rfl rfl) h1
  have bat := bounds_u8 wat
  obtain ⟨at_, rfl⟩ := Int.eq_ofNat_of_zero_le bat.1
  obtain ⟨turn', rfl, rfl, rfl, wturn⟩ := open_int Try.underlying5 (hval 2 5 v2 rfl rfl) h2
  have bturn := bounds_u8 wturn
  obtain ⟨turn, rfl⟩ := Int.eq_ofNat_of_zero_le bturn.1
  refine (modelEqual_walk l lL lC lM lRow lR at_ turn (by omega) (by omega)).mono fun e W' ⟨he', hm⟩ => ?_
  subst he'
  exact ⟨_, rfl, post_law laidOut (by rw [Try.params3]; exact readables_modelEqual) (by rfl) Try.underlying4 rfl rfl hW' hm.below⟩

set_option maxRecDepth 100000 in
theorem modelEqual_lifted (os : Os) (started : os.Started) (H : Type) (enc : TypeId × Value → H) :
    ReturnsInHanded {} Try.checked os 3 .any (Rows.modelEqualSpec.pre6 enc Try.prog Try.f3 Rows.modelEqualRow.domain false) (Rows.modelEqualSpec.post enc Try.prog Try.f3 false true false false) := by
  refine returnsInHanded_of_change_sized (C := Try.checked) own started (by kernel_rfl) Try.func3
    (ChangeSpec.witness6 (enc := enc) (C := Try.checked) false ⟨#[], #[.slice none 0 0, .int .u8 0, .int .u8 0], []⟩ 8 (by kernel_rfl) (by kernel_rfl) (by kernel_rfl) (by kernel_rfl)) ?_
  intro W base args ds gs before hval hW _ hsz _
  exact modelEqual_contract H enc W base args ds gs before hval hW hsz

/-- The law. -/
theorem modelEqual_said : Rows.ModelEqualSaid :=
  OpenClaim.holds_of_wide 3 Try.f3 rfl rfl rfl rfl rfl rfl rfl ⟨rfl, rfl, rfl, rfl, rfl⟩ rfl rfl rfl rfl rfl (by kernel_rfl) Try.func3 (by kernel_rfl)
    (of_decide_eq_true (by kernel_rfl)) (by unfold Func.isWrapper; first | (rw [if_pos (by decide +kernel)]; kernel_rfl) | (rw [if_neg (by decide +kernel)]; exact ⟨rfl, rfl⟩))
    (fun os started H enc _ => modelEqual_lifted os started H enc)
end Go.Proofs.Ytahaecieklfhkaa
