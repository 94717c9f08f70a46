/- The walks of package space, first half: begin, New, check, Step, Gen, Used, Free. -/
import Derived.Test.YtahaecieklfhkaaDoorBits7
namespace Go.Proofs.YtahaecieklfhkaaDoor
open Go.RowKit

/-- A space, as plain data. -/
structure Sp where
  first : Nat
  used : List Bool
  taken : List Bool
  given : List Bool
  gen : Nat
  last : Nat

def spHead (S : Sp) (bu : Nat) (x y : Value) : List Value := [.int .i64 S.first, .pointer (some ⟨bu, 0, none⟩), x, y, .int .u64 S.gen, .int .u64 S.last]
/-- What holds of a space's plain data. -/
structure Sp.Ok (S : Sp) : Prop where
  len : S.first < S.used.length
  taken : S.taken.length = S.used.length
  given : S.given.length = S.used.length
  max : S.used.length ≤ 4096
  gen : S.gen < 18446744073709551616
  last : S.last < 18446744073709551616
/-- A space lies at block b, in the blocks fp. -/
def IsSpace (w : World) (b : Nat) (fp : List Nat) (S : Sp) : Prop :=
  ∃ bu cu bt ct bg cg, fp = [b, bu, cu, bt, ct, bg, cg] ∧ fp.Nodup ∧ Blk w b 87 (spHead S bu (.pointer (some ⟨bt, 0, none⟩)) (.pointer (some ⟨bg, 0, none⟩))) ∧ IsSet w bu cu S.used ∧ IsSet w bt ct S.taken ∧ IsSet w bg cg S.given ∧ S.Ok
theorem IsSpace.keep {w w1 : World} {b : Nat} {fp : List Nat} {S : Sp} (h : IsSpace w b fp S) {L : List Nat} (hm : Mods L w w1) (hd : ∀ k ∈ fp, k ∉ L) : IsSpace w1 b fp S := by
  obtain ⟨bu, cu, bt, ct, bg, cg, rfl, h0, h1, h2, h3, h4, h5⟩ := h
  exact ⟨bu, cu, bt, ct, bg, cg, rfl, h0, h1.keep hm (hd _ (by simp)), h2.keep hm (hd _ (by simp)) (hd _ (by simp)), h3.keep hm (hd _ (by simp)) (hd _ (by simp)), h4.keep hm (hd _ (by simp)) (hd _ (by simp)), h5⟩
theorem IsSpace.lt {w : World} {b : Nat} {fp : List Nat} {S : Sp} (h : IsSpace w b fp S) : ∀ k ∈ fp, k < w.heap.size := by
  obtain ⟨bu, cu, bt, ct, bg, cg, rfl, h0, h1, h2, h3, h4, h5⟩ := h
  intro k hk
  have := h1.lt; have := h2.lt; have := h3.lt; have := h4.lt
  simp only [List.mem_cons, List.not_mem_nil, or_false] at hk
  rcases hk with rfl | rfl | rfl | rfl | rfl | rfl | rfl <;> omega
theorem IsSpace.ok {w : World} {b : Nat} {fp : List Nat} {S : Sp} (h : IsSpace w b fp S) : S.Ok := by
  obtain ⟨bu, cu, bt, ct, bg, cg, rfl, h0, h1, h2, h3, h4, h5⟩ := h; exact h5
theorem IsSpace.drewN {w : World} {b : Nat} {fp : List Nat} {S : Sp} (h : IsSpace w b fp S) (n : Nat) : IsSpace (w.drewN n) b fp S := h
theorem IsSpace.nodup {w : World} {b : Nat} {fp : List Nat} {S : Sp} (h : IsSpace w b fp S) : fp.Nodup := by
  obtain ⟨bu, cu, bt, ct, bg, cg, rfl, h0, _⟩ := h; exact h0

/-- Nothing was taken or given. -/
def Sp.fresh (S : Sp) : Sp := { S with taken := List.replicate S.used.length false, given := List.replicate S.used.length false }

set_option maxHeartbeats 1000000 in
theorem begin_at (w : World) (b bu cu : Nat) (S : Sp) (x y : Value) (hb : Blk w b 87 (spHead S bu x y)) (hu : IsSet w bu cu S.used) (hd : b ≠ bu ∧ b ≠ cu) :
    Calls Tryd.prog 49 #[.pointer (some ⟨b, 0, none⟩)] w fun e w' => e = .returned (.tuple #[]) ∧ Mods [b] w w' ∧ ∃ bt ct bg cg, bt ≠ ct ∧ bg ≠ cg ∧ w.heap.size ≤ bt ∧ w.heap.size ≤ ct ∧ bt < bg ∧ bt < cg ∧ ct < bg ∧ ct < cg ∧
      Blk w' b 87 (spHead S bu (.pointer (some ⟨bt, 0, none⟩)) (.pointer (some ⟨bg, 0, none⟩))) ∧ IsSet w' bu cu S.used ∧ IsSet w' bt ct S.fresh.taken ∧ IsSet w' bg cg S.fresh.given := by
  have hlen := hu.len
  have hbl := hb.lt
  have hul := hu.lt
  have c1 := hb.cell (i := 1) rfl
  have c2 := hb.cell (i := 2) rfl
  have f2 := hb.free 2
  obtain ⟨n, hn⟩ : ∃ n, S.used.length = n := ⟨_, rfl⟩
  rw [hn] at hlen
  have hsz := size_to hu n (by rw [hn])
  have HSz := Lib.hid hsz
  have HU := Lib.hid hu
  have HB := Lib.hid hb
  have HN := Lib.hid hn
  clear hsz hu hb hn
  go_enter Tryd.func49, Tryd.ntmps49
  go_wp2_with fail
  refine HSz.out.mono ?_
  rintro e w' ⟨rfl, rfl⟩
  go_wp2_with fail
  refine (new_any w n (by omega) (by omega)).mono ?_
  rintro e w1 ⟨rfl, hm1, hz1, hs1⟩
  have hB1 := HB.out.keep hm1 (by simp)
  have hU1 := HU.out.keep hm1 (by simp) (by simp)
  have d2 := hB1.cell (i := 2) rfl
  have g2 := hB1.free 2
  have hset := hB1.set 2 (.pointer (some ⟨w.heap.size + 1, 0, none⟩))
  have hm2 : Mods [b] w (w1.setCell ⟨b, 2, none⟩ (.pointer (some ⟨w.heap.size + 1, 0, none⟩))) := (hm1.mono (by simp)).setCell (.inl (by simp)) _
  have hs2 : IsSet (w1.setCell ⟨b, 2, none⟩ (.pointer (some ⟨w.heap.size + 1, 0, none⟩))) (w.heap.size + 1) w.heap.size (List.replicate n false) := hs1.keep ((Mods.refl [b] w1).setCell (.inl (by simp)) _) (by simp; omega) (by simp; omega)
  have hU2 : IsSet (w1.setCell ⟨b, 2, none⟩ (.pointer (some ⟨w.heap.size + 1, 0, none⟩))) bu cu S.used := hU1.keep ((Mods.refl [b] w1).setCell (.inl (by simp)) _) (by simp; omega) (by simp; omega)
  have HS2 := Lib.hid hs2
  have HU2 := Lib.hid hU2
  have HM2 := Lib.hid hm2
  have HB2 := Lib.hid hset
  have hz1' : w1.heap.size = w.heap.size + 2 := hz1
  have HZ := Lib.hid hz1'
  clear hm1 hB1 hU1 hset hm2 hs2 hU2 hs1 hz1 hz1'
  go_wp2_with fail
  refine (copy_any HS2.out).mono ?_
  rintro e w3 ⟨b1, c3, rfl, hs3, hm3, hb1, hc3⟩
  have hz3 := hm3.size
  rw [World.size_setCell] at hz3 hb1 hc3
  have hB3 := HB2.out.keep hm3 (by simp)
  have e3 := hB3.cell (i := 3) rfl
  have g3 := hB3.free 3
  have hset3 := hB3.set 3 (.pointer (some ⟨b1, 0, none⟩))
  have hT3 := HS2.out.keep hm3 (by simp) (by simp)
  have hU3 := HU2.out.keep hm3 (by simp) (by simp)
  have hM3 := HM2.out.trans hm3 (by simp)
  have hb1c := hs3.lt
  have hz := HZ.out
  have HF : Hid (∃ bt ct bg cg, bt ≠ ct ∧ bg ≠ cg ∧ w.heap.size ≤ bt ∧ w.heap.size ≤ ct ∧ bt < bg ∧ bt < cg ∧ ct < bg ∧ ct < cg ∧
      Blk (w3.setCell ⟨b, 3, none⟩ (.pointer (some ⟨b1, 0, none⟩))) b 87 (spHead S bu (.pointer (some ⟨bt, 0, none⟩)) (.pointer (some ⟨bg, 0, none⟩))) ∧ IsSet (w3.setCell ⟨b, 3, none⟩ (.pointer (some ⟨b1, 0, none⟩))) bu cu S.used ∧
      IsSet (w3.setCell ⟨b, 3, none⟩ (.pointer (some ⟨b1, 0, none⟩))) bt ct S.fresh.taken ∧ IsSet (w3.setCell ⟨b, 3, none⟩ (.pointer (some ⟨b1, 0, none⟩))) bg cg S.fresh.given) := by
    have hmm : Mods [b] w3 (w3.setCell ⟨b, 3, none⟩ (.pointer (some ⟨b1, 0, none⟩))) := (Mods.refl [b] w3).setCell (.inl (by simp)) _
    have hfr : List.replicate n false = S.fresh.taken := by rw [← HN.out]; rfl
    have hfr2 : List.replicate n false = S.fresh.given := by rw [← HN.out]; rfl
    refine ⟨w.heap.size + 1, w.heap.size, b1, c3, by omega, by omega, by omega, by omega, by omega, by omega, by omega, by omega, ?_, hU3.keep hmm (by simp; omega) (by simp; omega), ?_, ?_⟩
    · exact hset3
    · rw [← hfr]; exact hT3.keep hmm (by simp; omega) (by simp; omega)
    · rw [← hfr2]; exact hs3.keep hmm (by simp; omega) (by simp; omega)
  have HM4 : Hid (Mods [b] w (w3.setCell ⟨b, 3, none⟩ (.pointer (some ⟨b1, 0, none⟩)))) := hM3.setCell (.inl (by simp)) _
  clear hs3 hm3 hB3 hset3 hT3 hU3 hM3 hz hz3
  go_wp2_with fail
  go_end0
  exact ⟨rfl, HM4.out, HF.out⟩
end Go.Proofs.YtahaecieklfhkaaDoor
