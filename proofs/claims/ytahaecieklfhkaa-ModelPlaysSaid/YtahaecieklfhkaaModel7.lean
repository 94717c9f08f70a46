/- The model's Equal, Copy and Of; what the law wakes with. -/
import Derived.Test.YtahaecieklfhkaaModel6
namespace Go.Proofs.Ytahaecieklfhkaa
open Go.RowKit

set_option maxRecDepth 100000 in
set_option maxHeartbeats 1600000 in
theorem mEqual_any {W : World} {b mb : Nat} {E : Ents} (h : IsM W b mb E) (hsm : E.length < 1000000) {B : Option Addr} {M : Ents} {d : Nat} (hB : Row W B (eRow M)) (hM : M.length < 1000000) :
    Calls Try.prog 15 #[.pointer (some ⟨b, 0, none⟩), .slice B M.length d] W fun e w' => e = .returned (.bool (decide (E = M))) ∧ Mods [] W w' := by
  have hln := Lib.hid (mLen_any h)
  have HI := Lib.hid h
  have HB := Lib.hid hB
  clear h hB
  obtain ⟨m, hm⟩ : ∃ m, M.length = m := ⟨_, rfl⟩
  rw [hm] at hM ⊢
  have HMl := Lib.hid hm
  obtain ⟨L, hL⟩ : ∃ L, E.length = L := ⟨_, rfl⟩
  rw [hL] at hsm hln
  have HL := Lib.hid hL
  clear hm hL
  go_enter Try.func15, Try.ntmps15
  go_wp2_with fail
  refine hln.out.mono ?_
  rintro x w1 ⟨rfl, hm1⟩
  have hI1 := HI.out.keep hm1 (by simp) (by simp)
  have hsc := Lib.hid (mScan_any hI1 (by rw [HL.out]; exact hsm) ⟨#[]⟩ ⟨#[]⟩ (L : Int))
  rw [scan_all E (L : Int) (by rw [HL.out]; exact Int.le_refl _)] at hsc
  have HM1 := Lib.hid hm1
  clear hI1 hm1 hln
  go_wp2_with fail
  refine hsc.out.mono ?_
  rintro x w2 ⟨u, rfl, hown, hm2⟩
  obtain ⟨A, c, rfl, hrow, _⟩ := owns2 hown
  have hmm := HM1.out.trans hm2 (by simp)
  have heq := Lib.hid (eEqual_any (c := c) (d := d) hrow (HB.out.keep hmm (fun _ _ => by simp)) (by rw [HL.out]; exact hsm) (by rw [HMl.out]; exact hM))
  rw [HMl.out] at heq
  have HMM := Lib.hid hmm
  clear hown hrow hmm hm2 hsc
  go_wp2_with fail
  refine heq.out.mono ?_
  rintro x w3 ⟨rfl, hm3⟩
  go_wp2_with fail
  go_ret
  exact ⟨rfl, HMM.out.trans hm3 (by simp)⟩

theorem MapK.clone {w : World} {b n : Nat} {F : ByteArray → Option Value} (h : MapK kvS w b F n) : ∃ o, (Calls Try.prog 50 #[.map (some b)] w fun e w' => e = .returned (.map (some w.heap.size)) ∧ w.alloc o = w') ∧ MapK kvS (w.alloc o) w.heap.size F n := by
  obtain ⟨es, clock, h1, h2⟩ := h
  refine ⟨.map es clock, ?_, ⟨es, clock, (MapKept.heap_alloc w _).1, h2⟩⟩
  exact (AnyW.maps_Clone Try.clone50 b es clock w h1).mono fun _ _ h => ⟨h.1, h.2.symm⟩
set_option maxRecDepth 100000 in
theorem mCopy_any {W : World} {b mb : Nat} {E : Ents} (h : IsM W b mb E) : Calls Try.prog 31 #[.pointer (some ⟨b, 0, none⟩)] W fun e w' => ∃ b1 mb1, e = .returned (.pointer (some ⟨b1, 0, none⟩)) ∧ IsM w' b1 mb1 E ∧ Mods [] W w' ∧ W.heap.size ≤ b1 ∧ W.heap.size ≤ mb1 := by
  have c0 := h.blk.cell (i := 0) rfl
  obtain ⟨o, hcl, hM1⟩ := h.map.clone
  obtain ⟨w1, hw1⟩ : ∃ w1, W.alloc o = w1 := ⟨_, rfl⟩
  rw [hw1] at hcl hM1
  have hm1 : Mods [] W w1 := by rw [← hw1]; exact (Mods.refl _ _).alloc _
  have hs1 : w1.heap.size = W.heap.size + 1 := by rw [← hw1]; simp
  obtain ⟨w2, hw2⟩ : ∃ w2, w1.alloc (.cells #[.map (some W.heap.size)] 94) = w2 := ⟨_, rfl⟩
  have hm2 : Mods [] w1 w2 := by rw [← hw2]; exact (Mods.refl _ _).alloc _
  have hB2 : Blk w2 w1.heap.size 94 [.map (some W.heap.size)] := by rw [← hw2]; exact Blk.new w1 94 _
  have HC := Lib.hid hcl
  clear hcl hw1
  go_enter Try.func31, Try.ntmps31
  go_wp2_with fail
  refine HC.out.mono ?_
  rintro x w' ⟨rfl, rfl⟩
  go_wp2_with fail
  go_ret
  exact ⟨_, _, rfl, ⟨by rw [← hs1]; exact hB2, hM1.keep hm2 (by simp), h.up, h.key, by omega⟩, hm1.trans hm2 (by simp), by omega, Nat.le_refl _⟩

def ucells (u : Upd) : List Value := [.int .u8 (u.kind : Nat), .string u.key, .string u.val, .int .u64 (u.delta : Nat)]
def uRow (U : List Upd) : List Value := U.flatMap ucells
theorem ucells_len (u : Upd) : (ucells u).length = 4 := rfl
theorem uRow_at {w : World} {A : Option Addr} {U : List Upd} (h : Row w A (uRow U)) {i : Nat} {x : Upd} (hx : U[i]? = some x) : ∃ b off, A = some ⟨b, off, none⟩ ∧ w.cell? ⟨b, off + i * 4, none⟩ = some (.int .u8 (x.kind : Nat)) ∧ w.cell? ⟨b, off + i * 4 + 1, none⟩ = some (.string x.key) ∧
    w.cell? ⟨b, off + i * 4 + 2, none⟩ = some (.string x.val) ∧ w.cell? ⟨b, off + i * 4 + 3, none⟩ = some (.int .u64 (x.delta : Nat)) := by
  have g := fun (j : Nat) (hj : j < 4) => flat_get ucells ucells_len hx hj
  rcases h with h | ⟨b, off, h1, h2⟩
  · have := g 0 (by omega)
    rw [show U.flatMap ucells = uRow U from rfl, h] at this
    simp [ucells] at this
  · refine ⟨b, off, h1, ?_, ?_, ?_, ?_⟩
    · exact h2 (i * 4) _ ((g 0 (by omega)).trans rfl)
    · rw [Nat.add_assoc]; exact h2 (i * 4 + 1) _ ((g 1 (by omega)).trans rfl)
    · rw [Nat.add_assoc]; exact h2 (i * 4 + 2) _ ((g 2 (by omega)).trans rfl)
    · rw [Nat.add_assoc]; exact h2 (i * 4 + 3) _ ((g 3 (by omega)).trans rfl)
def allE (E : Ents) (U : List Upd) : Ents := U.foldl stepE E
set_option maxRecDepth 100000 in
set_option maxHeartbeats 1600000 in
theorem mOf_any {W : World} {A : Option Addr} {U : List Upd} {c : Nat} (hr : Row W A (uRow U)) (hsm : U.length < 1000000) :
    Calls Try.prog 36 #[.slice A U.length c] W fun e w' => ∃ b mb, e = .returned (.pointer (some ⟨b, 0, none⟩)) ∧ IsM w' b mb (allE [] U) ∧ Mods [] W w' ∧ W.heap.size ≤ b ∧ W.heap.size ≤ mb := by
  have HR := Lib.hid hr
  clear hr
  obtain ⟨L, hL⟩ : ∃ L, U.length = L := ⟨_, rfl⟩
  rw [hL] at hsm ⊢
  have HL := Lib.hid hL
  clear hL
  go_enter Try.func36, Try.ntmps36
  go_wp2_with fail
  refine (mNew_any _).mono ?_
  rintro x w1 ⟨b, mb, rfl, hI, hm1, hb, hmb⟩
  have H1 := Lib.hid (And.intro hI hm1)
  clear hI hm1
  go_wp2_with fail
  go_loopw [5, 9] (fun _ iv wr => ∃ k : Nat, k ≤ L ∧ iv = .int .i64 k ∧ IsM wr b mb (allE [] (U.take k)) ∧ Mods [] W wr) (fun _ iv _ => L - (intOf iv).toNat)
  case atStart => exact ⟨0, Nat.zero_le _, rfl, H1.out.1, H1.out.2⟩
  case round =>
    obtain ⟨k, hk, rfl, hI, hm⟩ := hrel
    clear H1
    by_cases hkl : k < L
    · obtain ⟨x, hx⟩ : ∃ x, U[k]? = some x := ⟨_, List.getElem?_eq_getElem (by rw [HL.out]; exact hkl)⟩
      obtain ⟨bb, ob, rfl, c0, c1, c2, c3⟩ := uRow_at (HR.out.keep hm (fun _ _ => by simp)) hx
      have ht : U.take (k + 1) = U.take k ++ [x] := by rw [List.take_add_one, hx]; rfl
      have hst : stepE (allE [] (U.take k)) x = allE [] (U.take (k + 1)) := by rw [ht]; unfold allE; rw [List.foldl_append]; rfl
      have HI := Lib.hid hI
      have HM := Lib.hid hm
      have HS := Lib.hid hst
      clear hI hm hx ht hst
      go_wp2_with fail
      refine (mUpdate_any (HI.out.keep ((Mods.refl [] wr).alloc _) (by simp) (by simp)) x).mono ?_
      rintro y w3 ⟨rfl, hI3, hm3⟩
      have HN : Hid (IsM w3 b mb (allE [] (U.take (k + 1))) ∧ Mods [] W w3) := by
        rw [← HS.out]
        exact ⟨hI3, (HM.out.alloc _).trans hm3 (fun q hq => .inr (by rw [List.mem_singleton.1 hq]; exact hmb))⟩
      clear hI3 hm3
      go_wp2_with fail
      go_roundw
      case rel => exact ⟨k + 1, by omega, by simp, HN.out.1, HN.out.2⟩
      case measure => simp [intOf]; omega
    · obtain rfl : k = L := by omega
      rw [List.take_of_length_le (Nat.le_of_eq HL.out)] at hI
      have HI := Lib.hid (And.intro hI hm)
      clear hI hm
      go_wp2_with fail
      go_ret
      exact ⟨b, mb, rfl, HI.out.1, HI.out.2, hb, hmb⟩
set_option maxRecDepth 100000 in
theorem mUpdate_nil (u : Upd) (W : World) : Calls Try.prog 12 #[.pointer none, updV u] W fun e w' => e = .returned (.int .i64 1) ∧ Mods [] W w' := by
  unfold updV
  go_enter Try.func12, Try.ntmps12
  go_wp2_with fail
  go_ret
  exact ⟨rfl, (Mods.refl _ _).alloc _⟩
set_option maxRecDepth 100000 in
theorem mGet_nil (k : ByteArray) (W : World) : Calls Try.prog 34 #[.pointer none, .string k] W fun e w' => e = .returned (.tuple #[.string ⟨#[]⟩, .bool false]) ∧ W = w' := by
  go_enter Try.func34, Try.ntmps34
  go_wp2_with fail
  go_ret2
  exact ⟨rfl, rfl⟩
set_option maxRecDepth 100000 in
theorem mScan_nil (low high : ByteArray) (most : Int) (W : World) : Calls Try.prog 13 #[.pointer none, .string low, .string high, .int .i64 most] W fun e w' => e = .returned (.slice none 0 0) ∧ W = w' := by
  go_enter Try.func13, Try.ntmps13
  go_wp2_with fail
  go_ret
  exact ⟨rfl, rfl⟩
set_option maxRecDepth 100000 in
theorem mLen_nil (W : World) : Calls Try.prog 16 #[.pointer none] W fun e w' => e = .returned (.int .i64 0) ∧ W = w' := by
  go_enter Try.func16, Try.ntmps16
  go_wp2_with fail
  go_ret
  exact ⟨rfl, rfl⟩
set_option maxRecDepth 100000 in
theorem mCopy_nil (W : World) : Calls Try.prog 31 #[.pointer none] W fun e w' => e = .returned (.pointer none) ∧ W = w' := by
  go_enter Try.func31, Try.ntmps31
  go_wp2_with fail
  go_ret
  exact ⟨rfl, rfl⟩

def uA : Upd := ⟨1, ⟨#[97]⟩, ⟨#[49]⟩, 0⟩
def uB : Upd := ⟨1, ⟨#[98]⟩, ⟨#[50]⟩, 0⟩
def uD : Upd := ⟨2, ⟨#[97]⟩, ⟨#[]⟩, 0⟩
theorem wakesG : getE [(⟨#[98]⟩, ⟨#[50]⟩)] ⟨#[98]⟩ = some ⟨#[50]⟩ := by decide +kernel
theorem wakesE : allE [] [uA, uB, uD] = [(⟨#[98]⟩, ⟨#[50]⟩)] := by decide +kernel
set_option maxRecDepth 100000 in
set_option maxHeartbeats 1600000 in
theorem w28_any (W : World) : Calls Try.prog 14 #[] W fun e w' => e = .returned (.bool true) ∧ Mods [] W w' := by
  have hm1 : Mods [] W (W.alloc (.cells (uRow [uA, uB, uD]).toArray 30)) := (Mods.refl _ _).alloc _
  have hB1 : Blk (W.alloc (.cells (uRow [uA, uB, uD]).toArray 30)) W.heap.size 30 (uRow [uA, uB, uD]) := Blk.new W 30 _
  have hof := Lib.hid (mOf_any (c := 3) (U := [uA, uB, uD]) (A := some ⟨W.heap.size, 0, none⟩) (.inr ⟨W.heap.size, 0, rfl, fun i u hi => by rw [Nat.zero_add]; exact hB1.cell hi⟩) (by decide))
  rw [wakesE] at hof
  have HM1 := Lib.hid hm1
  clear hm1 hB1
  go_enter Try.func14, Try.ntmps14
  go_wp2_with fail
  refine hof.out.mono ?_
  rintro x w2 ⟨b, mb, rfl, hI, hm2, _⟩
  have HM2 := Lib.hid (HM1.out.trans hm2 (by simp))
  have HI := Lib.hid hI
  clear hI hm2 hof HM1
  go_wp2_with fail
  have hg := Lib.hid (mGet_any HI.out ⟨#[98]⟩)
  rw [wakesG] at hg
  refine hg.out.mono ?_
  rintro x w3 ⟨rfl, hm3⟩
  clear hg
  have HI3 := Lib.hid (HI.out.keep hm3 (by simp) (by simp))
  have HM3 := Lib.hid (HM2.out.trans hm3 (by simp))
  clear hm3
  go_wp2_with fail
  refine (mLen_any HI3.out).mono ?_
  rintro x w4 ⟨rfl, hm4⟩
  have HI4 := Lib.hid (HI3.out.keep hm4 (by simp) (by simp))
  have HM4 := Lib.hid (HM3.out.trans hm4 (by simp))
  clear hm4
  go_wp2_with fail
  have hB5 := Blk.new w4 42 (ecells (⟨#[98]⟩, ⟨#[50]⟩))
  have hm5 : Mods [] w4 (w4.alloc (.cells (ecells (⟨#[98]⟩, ⟨#[50]⟩)).toArray 42)) := (Mods.refl _ _).alloc _
  have heq := Lib.hid (mEqual_any (d := 1) (M := [(⟨#[98]⟩, ⟨#[50]⟩)]) (B := some ⟨w4.heap.size, 0, none⟩) (HI4.out.keep hm5 (by simp) (by simp)) (by decide) (.inr ⟨w4.heap.size, 0, rfl, fun i u hi => by rw [Nat.zero_add]; exact hB5.cell hi⟩) (by decide))
  refine heq.out.mono ?_
  rintro x w6 ⟨rfl, hm6⟩
  have HI6 := Lib.hid ((HI4.out.keep hm5 (by simp) (by simp)).keep hm6 (by simp) (by simp))
  have HM6 := Lib.hid ((HM4.out.trans hm5 (by simp)).trans hm6 (by simp))
  clear hm5 hm6 heq hB5
  have hd1 : decide ([((⟨#[98]⟩ : ByteArray), (⟨#[50]⟩ : ByteArray))] = [(⟨#[98]⟩, ⟨#[50]⟩)]) = true := by simp
  rw [hd1]
  go_wp2_with fail
  have heq := Lib.hid (mEqual_any (d := 0) (M := []) (B := none) HI6.out (by decide) (.inl rfl) (by decide))
  refine heq.out.mono ?_
  rintro x w7 ⟨rfl, hm7⟩
  have hd2 : decide ([((⟨#[98]⟩ : ByteArray), (⟨#[50]⟩ : ByteArray))] = []) = false := by simp
  rw [hd2]
  have HM7 := Lib.hid (HM6.out.trans hm7 (by simp))
  clear hm7 heq
  go_wp2_with fail
  go_ret
  exact ⟨rfl, HM7.out⟩
end Go.Proofs.Ytahaecieklfhkaa
