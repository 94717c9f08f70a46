/- What the laws of layer 11 call wakes: true. -/
import Derived.Test.YtahaecieklfhkaaSeq4
namespace Go.Proofs.Ytahaecieklfhkaa
open Go.RowKit

theorem owns_shape {w : World} {base n : Nat} {e : TypeId} {u : Value} {xs : List Value} (h : w.ownsRow base e 1 u n xs) (hn : 0 < n) : ∃ g cap, u = .slice (some ⟨g, 0, none⟩) n cap ∧ base ≤ g ∧ g < w.heap.size ∧ ∀ (j : Nat) x, xs[j]? = some x → w.cell? ⟨g, j, none⟩ = some x := by
  have hlt := h.lt
  have hc := fun g hg => h.cells (g := g) hg
  obtain ⟨_, h2⟩ := h
  rcases h2 with ⟨_, h2⟩ | ⟨g, cap, cur, rfl, hb, hk, _⟩
  · omega
  · exact ⟨g, cap, rfl, hb, lt_of_block hk, fun j x hx => by have := hc g rfl j x hx; rwa [addr_add0] at this⟩
theorem owns_nil {w : World} {base : Nat} {e : TypeId} {u : Value} {xs : List Value} (h : w.ownsRow base e 1 u 0 xs) : ∃ s c, u = .slice s 0 c := by
  obtain ⟨_, h2⟩ := h
  rcases h2 with ⟨rfl, _⟩ | ⟨g, cap, cur, rfl, _⟩
  · exact ⟨_, _, rfl⟩
  · exact ⟨_, _, rfl⟩

def kw (i : Int) (k : Nat) (p : ByteArray) : Kept := ⟨i, 0, 0, k, p⟩
def rw11 : Nat → List Kept
  | 0 => []
  | 1 => [kw 1 4 ⟨#[112]⟩]
  | _ => [kw 2 4 ⟨#[112]⟩, kw 1 4 ⟨#[112]⟩]

set_option maxRecDepth 100000 in
set_option maxHeartbeats 1600000 in
theorem w11_any (w : World) : Calls Try.prog 18 #[] w fun e w' => e = .returned (.bool true) ∧ Mods [] w w' := by
  have hn := Lib.hid (cNew_any w 2 (by omega) (by omega))
  go_enter Try.func18, Try.ntmps18
  go_wp2_with fail
  refine hn.out.mono ?_
  rintro x w1 ⟨b, fp0, rfl, hm1, hc1, hf1⟩
  have HM1 := Lib.hid hm1
  have HC1 := Lib.hid hc1
  have HF1 := Lib.hid hf1
  clear hm1 hc1 hf1 hn
  go_wp2_with fail
  go_loopw [15] (fun iv wr => ∃ k : Nat, k ≤ 2 ∧ iv = .int .i64 k ∧ ∃ fp, IsC wr b fp 2 (rw11 k) 0 0 k ∧ Mods [] w wr ∧ ∀ x ∈ fp, w.heap.size ≤ x) (fun iv _ => 2 - (intOf iv).toNat)
  case atStart => exact ⟨0, by omega, rfl, fp0, HC1.out, HM1.out, HF1.out⟩
  case round =>
    obtain ⟨k, hk, rfl, fp, hC, hM, hF⟩ := hrel
    clear HM1 HC1 HF1
    by_cases hlt : k < 2
    · have hp := Lib.hid (cPut_any hC (by omega) ((k : Int) + 1) 0 0 4 ⟨#[112]⟩ (by omega))
      have hR : putK 2 (rw11 k) ⟨(k : Int) + 1, 0, 0, 4, ⟨#[112]⟩⟩ = rw11 (k + 1) := by
        have : k = 0 ∨ k = 1 := by omega
        rcases this with rfl | rfl <;> rfl
      have HR := Lib.hid hR
      have HM := Lib.hid (And.intro hM hF)
      clear hC hM hF hR
      go_wp2_with fail
      refine hp.out.mono ?_
      rintro x w2 ⟨rfl, fp1, hC, hM, hF⟩
      have HN : Hid (∃ fp, IsC w2 b fp 2 (rw11 (k + 1)) 0 0 (k + 1) ∧ Mods [] w w2 ∧ ∀ x ∈ fp, w.heap.size ≤ x) := by
        rw [HR.out] at hC
        refine ⟨fp1, hC, HM.out.1.trans hM (fun x hx => .inr (HM.out.2 x hx)), fun x hx => ?_⟩
        rcases hF x hx with h | h
        · exact HM.out.2 x h
        · have := HM.out.1.size; omega
      clear hC hM hF hp
      go_wp2_with fail
      go_roundw
      case rel => exact ⟨k + 1, by omega, by simp, HN.out⟩
      case measure => simp [intOf]; omega
    · obtain rfl : k = 2 := by omega
      have hg := Lib.hid (cGet_hit hC 1 0 0 (x := kw 1 4 ⟨#[112]⟩) rfl (by omega) (by omega))
      have HM := Lib.hid (And.intro hM hF)
      clear hC hM hF
      go_wp2_with fail
      refine hg.out.mono ?_
      rintro x w2 ⟨rfl, fp1, hC, hM, hF⟩
      have hp := Lib.hid (cPut_any hC (by omega) 3 0 0 5 ⟨#[113]⟩ (by omega))
      have HM2 : Hid (Mods [] w w2 ∧ ∀ x ∈ fp1, w.heap.size ≤ x) := ⟨HM.out.1.trans hM (fun x hx => .inr (HM.out.2 x hx)), fun x hx => HM.out.2 x (hF x hx)⟩
      clear hC hM hF hg HM
      go_wp2_with fail
      refine hp.out.mono ?_
      rintro x w3 ⟨rfl, fp2, hC, hM, hF⟩
      have HM3 : Hid (Mods [] w w3 ∧ ∀ x ∈ fp2, w.heap.size ≤ x) := ⟨HM2.out.1.trans hM (fun x hx => .inr (HM2.out.2 x hx)), fun x hx => by
        rcases hF x hx with h | h
        · exact HM2.out.2 x h
        · have := HM2.out.1.size; omega⟩
      have hg := Lib.hid (cGet_miss hC 2 0 0 rfl (by omega))
      clear hC hM hF hp HM2
      go_wp2_with fail
      refine hg.out.mono ?_
      rintro x w4 ⟨rfl, hC, hM⟩
      have HM4 : Hid (Mods [] w w4) := HM3.out.1.trans hM (fun x hx => .inr (HM3.out.2 x hx))
      have hl := Lib.hid (cList_any hC)
      clear hC hM hg HM3
      go_wp2_with fail
      refine hl.out.mono ?_
      rintro x w5 ⟨u, rfl, hrow, hM, _⟩
      obtain ⟨g, cap, rfl, hgb, hgl, hcs⟩ := owns_shape hrow (by decide)
      have d0 : w5.cell? ⟨g, 0, none⟩ = some (.int .i64 3) := hcs 0 _ rfl
      have d1 : w5.cell? ⟨g, 1, none⟩ = some (.int .i64 1) := hcs 1 _ rfl
      have HM5 : Hid (Mods [] w w5) := HM4.out.trans hM (by simp)
      have hl2 : (putK 2 (kw 1 4 ⟨#[112]⟩ :: others 1 (rw11 2)) ⟨3, 0, 0, 5, ⟨#[113]⟩⟩).length = 2 := rfl
      rw [hl2]
      have hkp : (kw 1 4 ⟨#[112]⟩).pay = ⟨#[112]⟩ := rfl
      rw [hkp]
      clear hrow hM hcs hl hl2 hkp HM4
      go_wp2_with fail
      go_ret
      exact ⟨by rfl, HM5.out⟩
end Go.Proofs.Ytahaecieklfhkaa
