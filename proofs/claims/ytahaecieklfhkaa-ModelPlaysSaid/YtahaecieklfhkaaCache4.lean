/- The walks of container/heap over package cache's order: down. -/
import Derived.Test.YtahaecieklfhkaaCache3
namespace Go.Proofs.Ytahaecieklfhkaa
open Go.RowKit

theorem kids {n i : Nat} {P : Nat → Prop} (h1 : 2 * i + 1 < n → P (2 * i + 1)) (h2 : 2 * i + 2 < n → P (2 * i + 2)) : ∀ k, k < n → 0 < k → (k - 1) / 2 = i → P k := by
  intro k hk k0 hp
  have : k = 2 * i + 1 ∨ k = 2 * i + 2 := by omega
  rcases this with rfl | rfl
  · exact h1 hk
  · exact h2 hk

/-- What down says: whether the entry went down; then all is a heap; else perhaps not with its parent. -/
def DownPost (w w' : World) (g cap n i0 : Nat) (E : List Ent) (x : Ending) : Prop := ∃ (i : Nat) (E' : List Ent), x = .returned (.bool (decide (i0 < i))) ∧ i0 ≤ i ∧ UpW w w' g cap n E E' ∧ (i ≠ i0 → Hp (useds E') n) ∧ (i = i0 → UpOk (useds E') n i0)

set_option maxRecDepth 100000 in
set_option maxHeartbeats 3200000 in
theorem hDown_any {w : World} {g cap b n i0 : Nat} {E : List Ent} (h : HeapW w g cap E) (hb : w.cell? ⟨b, 2, none⟩ = some (.slice (some ⟨g, 0, none⟩) E.length cap)) (hbn : b ∉ g :: E.map Ent.blk)
    (hi : i0 < n) (hn : n ≤ E.length) (hsm : E.length < 1000000) (hok : DownOk (useds E) n i0 i0) :
    Calls Try.prog 73 #[.iface 116 (.pointer (some ⟨b, 2, none⟩)), .int .i64 i0, .int .i64 n] w fun x w' => DownPost w w' g cap n i0 E x := by
  have H0 := Lib.hid (UpW.refl n h)
  have HB := Lib.hid (And.intro hb hbn)
  have HK := Lib.hid hok
  clear h hb hbn hok
  go_enter Try.func73, Try.ntmps73
  go_wp2
  go_loopw [7] (fun iv wr => ∃ (i : Nat) (E' : List Ent), iv = .int .i64 i ∧ i0 ≤ i ∧ i < n ∧ UpW w wr g cap n E E' ∧ DownOk (useds E') n i0 i) (fun iv _ => n - (intOf iv).toNat)
  case atStart => exact ⟨i0, E, rfl, Nat.le_refl _, hi, H0.out, HK.out⟩
  case round =>
    obtain ⟨i, E', rfl, hi0, hin, hU, hK⟩ := hrel
    have hlen := hU.len
    have hcell := hU.cell HB.out.1 HB.out.2
    have mL := m_less hcell
    have mL2 := fun q => m_less (w := wr.drewN q) hcell
    have mS := fun q => m_swap (w := wr.drewN q) hcell
    have EN := Lib.hid (down_end (i := i) hK)
    have ES := Lib.hid (fun (e : i = i0) => down_still (i := i) (by rw [e] at hK ⊢; exact hK))
    have fin : (∀ k, k < n → 0 < k → (k - 1) / 2 = i → useds E' i ≤ useds E' k) → ∀ q, UpW w (wr.drewN q) g cap n E E' ∧ (i ≠ i0 → Hp (useds E') n) ∧ (i = i0 → UpOk (useds E') n i0) := fun hc q =>
      ⟨hU.drewN q, fun hne => EN.out hc hne, fun he => by have := ES.out he hc; rw [he] at this; exact this⟩
    have FIN := Lib.hid fin
    clear EN ES fin
    obtain ⟨e, he⟩ : ∃ e, E'[i]? = some e := ⟨_, List.getElem?_eq_getElem (by omega)⟩
    have eu := Lib.hid (useds_at he)
    by_cases hA : n ≤ 2 * i + 1
    · clear hU hK he hcell HB H0 HK hlen
      go_wp2
      go_ret
      exact ⟨i, E', rfl, hi0, FIN.out (kids (fun h => by omega) (fun h => by omega)) 0⟩
    · obtain ⟨x1, hx1⟩ : ∃ e, E'[2 * i + 1]? = some e := ⟨_, List.getElem?_eq_getElem (by omega)⟩
      have u1 := Lib.hid (useds_at hx1)
      by_cases hB : n ≤ 2 * i + 2
      · have hl := fun q => Lib.hid (oLess_any (hU.heap.drewN q) hx1 he)
        have hs := fun q => Lib.hid (oSwap_any (hU.heap.drewN q) he hx1 (by omega))
        simp only [hlen] at hl hs
        have HS := fun (w2 : World) q => Lib.hid ((hU.drewN q).step (w2 := w2) he hx1 (by omega) (by omega))
        have HX := Lib.hid (useds_exch he hx1)
        have ST := Lib.hid (down_step (j := 2 * i + 1) hK hi0 (by omega) (by omega) (by omega))
        have hl0 := (hl 0)
        clear hU hK he hcell HB H0 HK hlen hx1
        have c21 : (((2 * i + 1 : Nat)) : Int) = 2 * (i : Int) + 1 := by omega
        have c22 : (((2 * i + 2 : Nat)) : Int) = 2 * (i : Int) + 1 + 1 := by omega
        simp only [c21] at hl hs hl0
        by_cases hlt : x1.used < e.used
        · simp only [decide_eq_true hlt] at hl hl0
          go_wp2_with (first
            | (go_at_call 128; refine hl0.out.mono ?_; rintro y w1 ⟨rfl, q, rfl⟩; simp only [World.drewN_drewN])
            | (go_at_call 129; refine (hs _).out.mono ?_; rintro y w3 ⟨rfl, h2, m2⟩))
          go_roundw
          case rel => exact ⟨2 * i + 1, lexch E' i (2 * i + 1), by congr 1 <;> omega, by omega, by omega, (HS _ _).out h2 m2, by rw [HX.out]; exact ST.out (by rw [eu.out, u1.out]; exact hlt) (kids (fun _ => by omega) (fun h => by omega))⟩
          case measure => simp [intOf]; omega
        · simp only [decide_eq_false hlt] at hl hl0
          go_wp2_with (first
            | (go_at_call 128; refine hl0.out.mono ?_; rintro y w1 ⟨rfl, q, rfl⟩; simp only [World.drewN_drewN]))
          go_ret
          exact ⟨i, E', rfl, hi0, FIN.out (kids (fun _ => by rw [eu.out, u1.out]; omega) (fun h => by omega)) _⟩
      · obtain ⟨x2, hx2⟩ : ∃ e, E'[2 * i + 2]? = some e := ⟨_, List.getElem?_eq_getElem (by omega)⟩
        have u2 := Lib.hid (useds_at hx2)
        by_cases hC : x2.used < x1.used
        · have hl := fun q => Lib.hid (oLess_any (hU.heap.drewN q) hx2 he)
          have hs := fun q => Lib.hid (oSwap_any (hU.heap.drewN q) he hx2 (by omega))
          simp only [hlen] at hl hs
          have HS := fun (w2 : World) q => Lib.hid ((hU.drewN q).step (w2 := w2) he hx2 (by omega) (by omega))
          have HX := Lib.hid (useds_exch he hx2)
          have ST := Lib.hid (down_step (j := 2 * i + 2) hK hi0 (by omega) (by omega) (by omega))
          have hq := Lib.hid (oLess_any hU.heap hx2 hx1)
          rw [hlen, decide_eq_true hC] at hq
          clear hU hK he hcell HB H0 HK hlen hx1 hx2
          have c21 : (((2 * i + 1 : Nat)) : Int) = 2 * (i : Int) + 1 := by omega
          have c22 : (((2 * i + 2 : Nat)) : Int) = 2 * (i : Int) + 1 + 1 := by omega
          simp only [c21, c22] at hl hs hq
          by_cases hlt : x2.used < e.used
          · simp only [decide_eq_true hlt] at hl
            go_wp2_with (first
              | (go_at_call 128; refine hq.out.mono ?_; rintro y w1 ⟨rfl, q, rfl⟩; clear hq)
              | (go_at_call 128; refine (hl _).out.mono ?_; rintro y w2 ⟨rfl, q2, rfl⟩; simp only [World.drewN_drewN])
              | (go_at_call 129; refine (hs _).out.mono ?_; rintro y w3 ⟨rfl, h2, m2⟩))
            go_roundw
            case rel => exact ⟨2 * i + 2, lexch E' i (2 * i + 2), by congr 1 <;> omega, by omega, by omega, (HS _ _).out h2 m2, by rw [HX.out]; exact ST.out (by rw [eu.out, u2.out]; exact hlt) (kids (fun _ => by rw [u1.out, u2.out]; omega) (fun _ => by omega))⟩
            case measure => simp [intOf]; omega
          · simp only [decide_eq_false hlt] at hl
            go_wp2_with (first
              | (go_at_call 128; refine hq.out.mono ?_; rintro y w1 ⟨rfl, q, rfl⟩; clear hq)
              | (go_at_call 128; refine (hl _).out.mono ?_; rintro y w2 ⟨rfl, q2, rfl⟩; simp only [World.drewN_drewN]))
            go_ret
            exact ⟨i, E', rfl, hi0, FIN.out (kids (fun _ => by rw [eu.out, u1.out]; omega) (fun _ => by rw [eu.out, u2.out]; omega)) _⟩
        · have hl := fun q => Lib.hid (oLess_any (hU.heap.drewN q) hx1 he)
          have hs := fun q => Lib.hid (oSwap_any (hU.heap.drewN q) he hx1 (by omega))
          simp only [hlen] at hl hs
          have HS := fun (w2 : World) q => Lib.hid ((hU.drewN q).step (w2 := w2) he hx1 (by omega) (by omega))
          have HX := Lib.hid (useds_exch he hx1)
          have ST := Lib.hid (down_step (j := 2 * i + 1) hK hi0 (by omega) (by omega) (by omega))
          have hq := Lib.hid (oLess_any hU.heap hx2 hx1)
          rw [hlen, decide_eq_false hC] at hq
          clear hU hK he hcell HB H0 HK hlen hx1 hx2
          have c21 : (((2 * i + 1 : Nat)) : Int) = 2 * (i : Int) + 1 := by omega
          have c22 : (((2 * i + 2 : Nat)) : Int) = 2 * (i : Int) + 1 + 1 := by omega
          simp only [c21, c22] at hl hs hq
          by_cases hlt : x1.used < e.used
          · simp only [decide_eq_true hlt] at hl
            go_wp2_with (first
              | (go_at_call 128; refine hq.out.mono ?_; rintro y w1 ⟨rfl, q, rfl⟩; clear hq)
              | (go_at_call 128; refine (hl _).out.mono ?_; rintro y w2 ⟨rfl, q2, rfl⟩; simp only [World.drewN_drewN])
              | (go_at_call 129; refine (hs _).out.mono ?_; rintro y w3 ⟨rfl, h2, m2⟩))
            go_roundw
            case rel => exact ⟨2 * i + 1, lexch E' i (2 * i + 1), by congr 1 <;> omega, by omega, by omega, (HS _ _).out h2 m2, by rw [HX.out]; exact ST.out (by rw [eu.out, u1.out]; exact hlt) (kids (fun _ => by omega) (fun _ => by rw [u1.out, u2.out]; omega))⟩
            case measure => simp [intOf]; omega
          · simp only [decide_eq_false hlt] at hl
            go_wp2_with (first
              | (go_at_call 128; refine hq.out.mono ?_; rintro y w1 ⟨rfl, q, rfl⟩; clear hq)
              | (go_at_call 128; refine (hl _).out.mono ?_; rintro y w2 ⟨rfl, q2, rfl⟩; simp only [World.drewN_drewN]))
            go_ret
            exact ⟨i, E', rfl, hi0, FIN.out (kids (fun _ => by rw [eu.out, u1.out]; omega) (fun _ => by rw [eu.out, u2.out]; omega)) _⟩
end Go.Proofs.Ytahaecieklfhkaa
