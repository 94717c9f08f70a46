/- The walk of the document's cache (treenailref11): Get, where it finds. -/
import Derived.Test.YtahaecieklfhkaaRef12
namespace Go.Proofs.Ytahaecieklfhkaa
open Go.RowKit Go.Maps

set_option maxRecDepth 100000 in
set_option maxHeartbeats 6400000 in
theorem rGet11_hit {w : World} {A : Option Addr} {cap : Nat} {R : List Kept} (hr : Row w A (kRow R)) (hsm : R.length < 10000) (hcap : R.length ≤ cap) (a : Int) (g s : Nat) {x : Kept} (hx : getK R a g s = some x) :
    Calls Try.prog 24 #[.slice A R.length cap, .int .i64 a, .int .u64 g, .int .u32 s] w fun e w' => ∃ u, e = .returned (.tuple #[u, .agg (kcells x).toArray, .bool true]) ∧ w'.ownsRow w.heap.size 66 5 u (putK R.length R x).length (kRow (putK R.length R x)) ∧ Mods [] w w' := by
  obtain ⟨w1, hw1⟩ : ∃ w1, w.alloc (.cells zcells.toArray 66) = w1 := ⟨_, rfl⟩
  have hm1 : Mods [] w w1 := by rw [← hw1]; exact (Mods.refl _ _).alloc _
  have hB1 : Blk w1 w.heap.size 66 zcells := by rw [← hw1]; exact Blk.new w 66 _
  have hr1 := hr.keep hm1 (fun _ _ => by simp)
  have HR := Lib.hid hr1
  have H1 := Lib.hid (And.intro hm1 hB1)
  have HX := Lib.hid hx
  simp only [zcells] at hw1
  clear hr hm1 hB1 hx hr1
  generalize hL : R.length = len at *
  have HL := Lib.hid hL
  clear hL
  go_enter Try.func24, Try.ntmps24
  go_wp2_with fail
  clear hw1
  go_loopw [11] (fun iv wr => ∃ k : Nat, k ≤ len ∧ iv = .int .i64 k ∧ wr = w1 ∧ Hid (∀ y ∈ R.take k, y.is a g s = false)) (fun iv _ => len - (intOf iv).toNat)
  case atStart => exact ⟨0, Nat.zero_le _, rfl, rfl, by unfold Hid; simp⟩
  case round =>
    obtain ⟨k, hk, rfl, rfl, HNO⟩ := hrel
    by_cases hlt : k < len
    · obtain ⟨z, hz⟩ : ∃ z, R[k]? = some z := ⟨_, List.getElem?_eq_getElem (by rw [HL.out]; exact hlt)⟩
      obtain ⟨b, off, rfl, d0, d1, d2, d3, d4⟩ := kRow_at HR.out hz
      by_cases hzi : z.is a g s = true
      · have hzx : z = x := by
          have := find_none_take HNO.out hz hzi
          have h2 := HX.out
          unfold getK at h2
          rw [this] at h2
          exact Option.some.inj h2
        subst hzx
        obtain ⟨h1, h2, h3⟩ := Kept.is_iff.1 hzi
        have q1 : (z.addr == a) = true := by simp [h1]
        have q2 : ((z.gen : Int) == (g : Int)) = true := by simp [h2]
        have q3 : ((z.sum : Int) == (s : Int)) = true := by simp [h3]
        clear hzi hz h1 h2 h3
        obtain ⟨W2, hW2⟩ : ∃ W2, wr.alloc (.cells #[.int .i64 z.addr, .int .u64 z.gen, .int .u32 z.sum, .int .u8 z.kind, .string z.pay] 66) = W2 := ⟨_, rfl⟩
        have hm2 : Mods [] wr W2 := by rw [← hW2]; exact (Mods.refl _ _).alloc _
        have hn2 : Blk W2 wr.heap.size 66 (kcells z) := by rw [← hW2]; exact Blk.new wr 66 (kcells z)
        have hpt := rPut11_any (n := len) (HR.out.keep hm2 (fun _ _ => by simp)) (by rw [HL.out]; exact hsm) (by rw [HL.out]; exact hcap) (by omega) (by omega) z
        rw [HL.out] at hpt
        simp only [kcells] at hpt
        have HPT := Lib.hid hpt
        have HZ := Lib.hid (And.intro hm2 hn2)
        have e0 := hn2.cell (i := 0) (v := .int .i64 z.addr) rfl
        have e1 := hn2.cell (i := 1) (v := .int .u64 z.gen) rfl
        have e2 := hn2.cell (i := 2) (v := .int .u32 z.sum) rfl
        have e3 := hn2.cell (i := 3) (v := .int .u8 z.kind) rfl
        have e4 := hn2.cell (i := 4) (v := .string z.pay) rfl
        clear hpt hm2 hn2
        go_wp2_with fail
        clear hW2 e0 e1 e2 e3 e4 d0 d1 d2 d3 d4 HR
        refine HPT.out.mono ?_
        rintro y W3 ⟨u, rfl, hown, hm3⟩
        have z9 := (H1.out.2.keep HZ.out.1 (by simp)).keep hm3 (by simp)
        have hn3 := HZ.out.2.keep hm3 (by simp)
        have hsz := H1.out.1.size
        have hsz2 := HZ.out.1.size
        have hlt9 := H1.out.2.lt
        have HM3 := Lib.hid ((H1.out.1.trans HZ.out.1 (by simp)).trans hm3 (by simp))
        have HO := Lib.hid hown
        have HB9 := Lib.hid z9
        obtain ⟨sa, sc, rfl⟩ : ∃ sa sc, u = .slice sa (putK len R z).length sc := by
          obtain ⟨A3, cap3, rfl, _⟩ := owns5 hown
          exact ⟨_, _, rfl⟩
        have c0 := z9.cell (i := 0) (v := .int .i64 0) rfl
        have c1 := z9.cell (i := 1) (v := .int .u64 0) rfl
        have c2 := z9.cell (i := 2) (v := .int .u32 0) rfl
        have c3 := z9.cell (i := 3) (v := .int .u8 0) rfl
        have c4 := z9.cell (i := 4) (v := .string ⟨#[]⟩) rfl
        have f0 := z9.free 0
        have f1 := z9.free 1
        have f2 := z9.free 2
        have f3 := z9.free 3
        have f4 := z9.free 4
        have e0 := hn3.cell (i := 0) (v := .int .i64 z.addr) rfl
        have e1 := hn3.cell (i := 1) (v := .int .u64 z.gen) rfl
        have e2 := hn3.cell (i := 2) (v := .int .u32 z.sum) rfl
        have e3 := hn3.cell (i := 3) (v := .int .u8 z.kind) rfl
        have e4 := hn3.cell (i := 4) (v := .string z.pay) rfl
        clear z9 hn3 hown hm3 HPT HZ H1
        go_wp2_with fail
        go_region
        all_goals
          obtain ⟨hb, hmm⟩ := set5 (b := w.heap.size) HB9.out rfl z HM3.out (.inr (Nat.le_refl _))
          have hm5 := set5 (b := w.heap.size) HB9.out rfl z (Mods.refl [w.heap.size] W3) (.inl (by simp))
          have HL5 := Lib.hid (load_rslot (x := z) hb)
          have HMM := Lib.hid hmm
          have HO5 := Lib.hid (owns5_mods HO.out hm5.2 (fun k hk hx => by rw [List.mem_singleton.1 hx] at hk; omega))
          clear hb hmm hm5 c0 c1 c2 c3 c4 f0 f1 f2 f3 f4 e0 e1 e2 e3 e4
          go_wp2_with fail
          refine bodyPost_ret (results_tct rfl rfl HL5.out) rfl ?_
          exact ⟨_, rfl, owns5_base HO5.out (by omega), HMM.out⟩
      · have hnx : ¬ (z.addr = a ∧ z.gen = g ∧ z.sum = s) := fun h => hzi (Kept.is_iff.2 h)
        have HN2 : Hid (∀ y ∈ R.take (k + 1), y.is a g s = false) := by
          intro y hy
          rw [List.take_add_one, hz] at hy
          rcases List.mem_append.1 hy with hy | hy
          · exact HNO.out y hy
          · simp at hy; subst hy; exact Bool.eq_false_iff.2 hzi
        clear hz d3 d4 hzi HNO
        by_cases h1 : z.addr = a
        · by_cases h2 : z.gen = g
          · have h3 : ¬ z.sum = s := fun e => hnx ⟨h1, h2, e⟩
            clear hnx
            have q1 : (z.addr == a) = true := by simp [h1]
            have q2 : ((z.gen : Int) == (g : Int)) = true := by simp [h2]
            have q3 : ((z.sum : Int) == (s : Int)) = false := by simp; omega
            go_wp2_with fail
            go_roundw
            case rel => exact ⟨k + 1, by omega, by simp, by first | exact ⟨rfl, HN2⟩ | exact ⟨trivial, HN2⟩ | exact HN2⟩
            case measure => simp [intOf]; omega
          · clear hnx
            have q1 : (z.addr == a) = true := by simp [h1]
            have q2 : ((z.gen : Int) == (g : Int)) = false := by simp; omega
            go_wp2_with fail
            go_roundw
            case rel => exact ⟨k + 1, by omega, by simp, by first | exact ⟨rfl, HN2⟩ | exact ⟨trivial, HN2⟩ | exact HN2⟩
            case measure => simp [intOf]; omega
        · clear hnx
          have q1 : (z.addr == a) = false := by simp [h1]
          go_wp2_with fail
          go_roundw
          case rel => exact ⟨k + 1, by omega, by simp, by first | exact ⟨rfl, HN2⟩ | exact ⟨trivial, HN2⟩ | exact HN2⟩
          case measure => simp [intOf]; omega
    · exfalso
      have h2 := HX.out
      unfold getK at h2
      have hm := List.mem_of_find?_eq_some h2
      have := HNO.out x (by rw [List.take_of_length_le (by rw [HL.out]; omega)]; exact hm)
      have h3 := List.find?_some h2
      simp only [this] at h3
      cases h3
end Go.Proofs.Ytahaecieklfhkaa
