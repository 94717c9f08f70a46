/- The walks of container/heap over package cache's order: up and down. -/
import Derived.Test.YtahaecieklfhkaaCache2
namespace Go.Proofs.Ytahaecieklfhkaa
open Go.RowKit

/-- What up and down keep: the same entries, in another order, but for the places from n on. -/
structure UpW (w wr : World) (g cap n : Nat) (E E' : List Ent) : Prop where
  perm : E'.Perm E
  heap : HeapW wr g cap E'
  mods : Mods (g :: E.map Ent.blk) w wr
  rest : ∀ k, n ≤ k → E'[k]? = E[k]?
theorem UpW.refl {w : World} {g cap : Nat} {E : List Ent} (n : Nat) (h : HeapW w g cap E) : UpW w w g cap n E E := ⟨List.Perm.refl _, h, Mods.refl _ _, fun _ _ => rfl⟩
theorem UpW.drewN {w wr : World} {g cap n : Nat} {E E' : List Ent} (h : UpW w wr g cap n E E') (q : Nat) : UpW w (wr.drewN q) g cap n E E' := ⟨h.perm, h.heap.drewN q, h.mods.drewN q, h.rest⟩
theorem UpW.len {w wr : World} {g cap n : Nat} {E E' : List Ent} (h : UpW w wr g cap n E E') : E'.length = E.length := h.perm.length_eq
theorem UpW.step {w wr w2 : World} {g cap n : Nat} {E E' : List Ent} (h : UpW w wr g cap n E E') {i k : Nat} {e f : Ent} (he : E'[i]? = some e) (hf : E'[k]? = some f) (hi : i < n) (hk : k < n)
    (h2 : HeapW w2 g cap (lexch E' i k)) (m2 : Mods (g :: E'.map Ent.blk) wr w2) : UpW w w2 g cap n E (lexch E' i k) := by
  refine ⟨(lexch_perm _ _ _).trans h.perm, h2, h.mods.trans m2 ?_, fun j hj => ?_⟩
  · intro x hx
    refine .inl ?_
    rcases List.mem_cons.1 hx with hx | hx
    · exact List.mem_cons.2 (.inl hx)
    · exact List.mem_cons_of_mem _ ((h.perm.map Ent.blk).mem_iff.1 hx)
  · rw [lexch_get he hf, if_neg (by omega), if_neg (by omega)]; exact h.rest j hj
theorem useds_exch {E : List Ent} {i k : Nat} {e f : Ent} (he : E[i]? = some e) (hf : E[k]? = some f) : useds (lexch E i k) = exch (useds E) i k := by
  funext j
  unfold useds exch
  rw [lexch_get he hf]
  by_cases h1 : j = i
  · simp [h1, hf]
  · by_cases h2 : j = k
    · subst h2; simp [h1, he]
    · simp [h1, h2]
theorem UpW.cell {w wr : World} {g cap n b : Nat} {E E' : List Ent} (h : UpW w wr g cap n E E') {v : Value} (hb : w.cell? ⟨b, 2, none⟩ = some v) (hn : b ∉ g :: E.map Ent.blk) : wr.cell? ⟨b, 2, none⟩ = some v :=
  (h.mods.cell (World.block_lt_of_cell? w _ hb) hn).trans hb

set_option maxRecDepth 100000 in
set_option maxHeartbeats 1600000 in
theorem hUp_any {w : World} {g cap b n j : Nat} {E : List Ent} (h : HeapW w g cap E) (hb : w.cell? ⟨b, 2, none⟩ = some (.slice (some ⟨g, 0, none⟩) E.length cap)) (hbn : b ∉ g :: E.map Ent.blk)
    (hj : j < n) (hn : n ≤ E.length) (hok : UpOk (useds E) n j) :
    Calls Try.prog 58 #[.iface 116 (.pointer (some ⟨b, 2, none⟩)), .int .i64 j] w fun x w' => x = .returned (.tuple #[]) ∧ ∃ E', UpW w w' g cap n E E' ∧ Hp (useds E') n := by
  have hle := h.le
  have H0 := Lib.hid (UpW.refl n h)
  have HB := Lib.hid (And.intro hb hbn)
  have HK := Lib.hid hok
  have HN := Lib.hid hn
  clear h hb hbn hok
  unfold maxLen at hle
  go_enter Try.func58, Try.ntmps58
  go_wp2
  go_loopw [1] (fun jv wr => ∃ (j : Nat) (E' : List Ent), jv = .int .i64 j ∧ j < n ∧ UpW w wr g cap n E E' ∧ UpOk (useds E') n j) (fun jv _ => (intOf jv).toNat)
  case atStart => exact ⟨j, E, rfl, hj, H0.out, HK.out⟩
  case round =>
    obtain ⟨j, E', rfl, hj, hU, hK⟩ := hrel
    have hlen := hU.len
    have hcell := hU.cell HB.out.1 HB.out.2
    have mL := m_less hcell
    have mS := fun q => m_swap (w := wr.drewN q) hcell
    by_cases hj0 : j = 0
    · subst hj0
      go_wp2
      go_end0
      exact ⟨rfl, E', hU, up_end hK (.inl rfl)⟩
    · have hp : (j - 1) / 2 < j := by omega
      have hq : Int.tdiv ((j : Int) - 1) 2 = (((j - 1) / 2 : Nat) : Int) := by
        rw [Int.tdiv_eq_ediv_of_nonneg (by omega)]; omega
      obtain ⟨f, hf⟩ : ∃ f, E'[j]? = some f := ⟨_, List.getElem?_eq_getElem (by omega)⟩
      obtain ⟨e, he⟩ : ∃ e, E'[(j - 1) / 2]? = some e := ⟨_, List.getElem?_eq_getElem (by omega)⟩
      have eu := useds_at he
      have fu := useds_at hf
      have hl := Lib.hid (oLess_any hU.heap hf he)
      have hs := fun q => Lib.hid (oSwap_any (hU.heap.drewN q) he hf (by omega))
      rw [hlen] at hl
      simp only [hlen] at hs
      have HU := Lib.hid hU
      have HK := Lib.hid hK
      have HS := fun (w2 : World) q => Lib.hid ((hU.drewN q).step (w2 := w2) he hf (by omega) hj)
      have HX := Lib.hid (useds_exch he hf)
      have ST := Lib.hid (up_step (j := j) hK hj (by omega))
      have EN := Lib.hid (up_end (j := j) hK)
      rw [eu, fu] at ST EN
      clear hU hK he hf hcell eu fu HB H0 hlen
      generalize hpp : (j - 1) / 2 = p at *
      by_cases hlt : f.used < e.used
      · rw [decide_eq_true hlt] at hl
        go_wp2_with (first
          | (go_at_call 128; refine hl.out.mono ?_; rintro x w1 ⟨rfl, q, rfl⟩)
          | (go_at_call 129; refine (hs _).out.mono ?_; rintro x w2 ⟨rfl, h2, m2⟩))
        go_roundw
        case rel => exact ⟨p, lexch E' p j, rfl, by omega, (HS _ _).out h2 m2, by rw [HX.out]; exact ST.out hlt⟩
        case measure => simp [intOf]; omega
      · rw [decide_eq_false hlt] at hl
        go_wp2_with (first
          | (go_at_call 128; refine hl.out.mono ?_; rintro x w1 ⟨rfl, q, rfl⟩))
        go_end0
        exact ⟨rfl, E', HU.out.drewN _, EN.out (.inr (by omega))⟩
end Go.Proofs.Ytahaecieklfhkaa
