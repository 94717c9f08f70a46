/- The walks of package cache: New, Drop, Counts; and what is said of a nil cache. -/
import Derived.Test.YtahaecieklfhkaaPCache
namespace Go.Proofs.Ytahaecieklfhkaa
open Go.RowKit

/-- The cache in block b, of n slots, keeps R, the one that was used last first; c0 were found, c1 weren't. -/
def IsC (w : World) (b : Nat) (fp : List Nat) (n : Nat) (R : List Kept) (c0 c1 t : Nat) : Prop :=
  ∃ S : CS, IsCache w b fp S ∧ S.slots = n ∧ Rel S.E R ∧ S.f0 = c0 ∧ S.f1 = c1 ∧ S.tick ≤ t
theorem IsC.keep {w w1 : World} {b : Nat} {fp : List Nat} {n : Nat} {R : List Kept} {c0 c1 t : Nat} (h : IsC w b fp n R c0 c1 t) {L : List Nat} (hm : Mods L w w1) (hn : ∀ k ∈ fp, k ∉ L) : IsC w1 b fp n R c0 c1 t := by
  obtain ⟨S, h1, h2⟩ := h
  exact ⟨S, h1.keep hm hn, h2⟩
theorem IsC.lt {w : World} {b : Nat} {fp : List Nat} {n : Nat} {R : List Kept} {c0 c1 t : Nat} (h : IsC w b fp n R c0 c1 t) : ∀ k ∈ fp, k < w.heap.size := by
  obtain ⟨S, h1, h2⟩ := h
  exact h1.lt
theorem IsC.drewN {w : World} {b : Nat} {fp : List Nat} {n : Nat} {R : List Kept} {c0 c1 t : Nat} (h : IsC w b fp n R c0 c1 t) (q : Nat) : IsC (w.drewN q) b fp n R c0 c1 t := h.keep ((Mods.refl [] w).drewN q) (by simp)
theorem IsC.adr {w : World} {b : Nat} {fp : List Nat} {n : Nat} {R : List Kept} {c0 c1 t : Nat} (h : IsC w b fp n R c0 c1 t) : (R.map Kept.addr).Nodup := by
  obtain ⟨S, ⟨mb, v, rfl, _, _, _, _, hk⟩, _, hr, _⟩ := h
  exact hr.adr hk.adr
theorem IsC.len {w : World} {b : Nat} {fp : List Nat} {n : Nat} {R : List Kept} {c0 c1 t : Nat} (h : IsC w b fp n R c0 c1 t) : R.length ≤ n := by
  obtain ⟨S, ⟨mb, v, rfl, _, _, _, _, hk⟩, hs, hr, _⟩ := h
  rw [hr.length, ← hs]; exact hk.len

set_option maxHeartbeats 400000 in
theorem cNew_bad (W : World) (n : Int) (h : ¬ (1 ≤ n ∧ n ≤ 4096)) :
    Calls Try.prog 17 #[.int .i64 n] W fun e w' => e = .returned (.tuple #[.pointer none, .int .i64 2]) ∧ W = w' := by
  by_cases h1 : n < 1
  · go_enter Try.func17, Try.ntmps17
    go_wp2
    go_ret2
    exact ⟨rfl, rfl⟩
  · have h2 : 4096 < n := by omega
    go_enter Try.func17, Try.ntmps17
    go_wp2
    go_ret2
    exact ⟨rfl, rfl⟩
theorem run_makeMapC (W : World) : (Instr.makeMap 105 none).run Try.prog W = .ok (.map (some W.heap.size)) (W.alloc (.map #[] 0)) := by kernel_rfl
set_option maxHeartbeats 400000 in
theorem cNew_any (W : World) (n : Nat) (h1 : 1 ≤ n) (h2 : n ≤ 4096) :
    Calls Try.prog 17 #[.int .i64 n] W fun e w' => ∃ b fp, e = .returned (.tuple #[.pointer (some ⟨b, 0, none⟩), .int .i64 0]) ∧ Mods [] W w' ∧ IsC w' b fp n [] 0 0 0 ∧ (∀ k ∈ fp, W.heap.size ≤ k) := by
  have hmm := run_makeMapC W
  obtain ⟨w1, hw1⟩ : ∃ w1, W.alloc (.map #[] 0) = w1 := ⟨_, rfl⟩
  obtain ⟨w2, hw2⟩ : ∃ w2, w1.alloc (.cells #[.int .i64 n, .map (some W.heap.size), .slice none 0 0, .int .u64 0, .int .i64 0, .int .i64 0] 110) = w2 := ⟨_, rfl⟩
  have hsz : w1.heap.size = W.heap.size + 1 := by rw [← hw1]; simp
  have hm1 : Mods [] W w1 := by rw [← hw1]; exact (Mods.refl _ _).alloc _
  have hm2 : Mods [] w1 w2 := by rw [← hw2]; exact (Mods.refl _ _).alloc _
  have hB : Blk w2 w1.heap.size 110 (CS.head ⟨n, [], 0, 0, 0⟩ W.heap.size (.slice none 0 0)) := by rw [← hw2]; exact Blk.new w1 110 _
  have hM : MapK kvC w2 W.heap.size (mapF (prs [])) 0 := by
    have := (MapK.made (kv := kvC) W)
    rw [hw1] at this
    exact this.keep hm2 (by simp)
  have HF : Hid (∃ fp, Mods [] W w2 ∧ IsC w2 w1.heap.size fp n [] 0 0 0 ∧ (∀ k ∈ fp, W.heap.size ≤ k)) := by
    refine ⟨[w1.heap.size, W.heap.size], hm1.trans hm2 (by simp), ⟨⟨n, [], 0, 0, 0⟩, ⟨W.heap.size, .slice none 0 0, rfl, ?_, hB, hM, .inl ⟨rfl, rfl⟩, ⟨by simp, by simp, by intro k hk; simp at hk, by simp, h2, by simp, by simp, by simp⟩⟩, rfl, rel_nil, rfl, rfl, Nat.le_refl _⟩, ?_⟩
    · simp; omega
    · intro k hk; simp at hk; omega
  rw [hsz] at HF
  clear hB hM hm1 hm2
  rw [hw1] at hmm
  have h3 : ¬ n < 1 := by omega
  go_enter Try.func17, Try.ntmps17
  go_wp2
  go_ret2
  obtain ⟨fp, hf⟩ := HF.out
  exact ⟨_, fp, rfl, hf⟩

set_option maxHeartbeats 400000 in
theorem cDrop_nil (w : World) (a : Int) : Calls Try.prog 25 #[.pointer none, .int .i64 a] w fun e w' => e = .returned (.tuple #[]) ∧ w = w' := by
  go_enter Try.func25, Try.ntmps25
  go_wp2
  refine bodyPost_ret (results_none rfl _ _ _) rfl ?_
  exact ⟨rfl, rfl⟩
set_option maxHeartbeats 400000 in
theorem cCounts_nil (w : World) : Calls Try.prog 27 #[.pointer none] w fun e w' => e = .returned (.tuple #[.int .i64 0, .int .i64 0]) ∧ w = w' := by
  go_enter Try.func27, Try.ntmps27
  go_wp2
  go_ret2
  exact ⟨rfl, rfl⟩
set_option maxHeartbeats 400000 in
theorem cList_nil (w : World) : Calls Try.prog 21 #[.pointer none] w fun e w' => e = .returned (.slice none 0 0) ∧ w = w' := by
  go_enter Try.func21, Try.ntmps21
  go_wp2
  go_ret
  exact ⟨rfl, rfl⟩
set_option maxHeartbeats 400000 in
theorem cPut_nil (w : World) (a g s : Int) (k : Value) (p : Value) : Calls Try.prog 19 #[.pointer none, .agg #[.int .i64 a, .int .u64 g, .int .u32 s], k, p] w fun e w' => e = .returned (.tuple #[]) ∧ Mods [] w w' := by
  have HM := Lib.hid ((Mods.refl [] w).alloc (.cells #[.int .i64 a, .int .u64 g, .int .u32 s] 53))
  go_enter Try.func19, Try.ntmps19
  go_wp2
  refine bodyPost_ret (results_none rfl _ _ _) rfl ?_
  exact ⟨rfl, HM.out⟩
set_option maxHeartbeats 400000 in
theorem cGet_nil (w : World) (a g s : Int) : Calls Try.prog 20 #[.pointer none, .agg #[.int .i64 a, .int .u64 g, .int .u32 s]] w fun e w' => e = .returned (.tuple #[.int .u8 0, .string ⟨#[]⟩, .bool false]) ∧ Mods [] w w' := by
  have HM := Lib.hid ((Mods.refl [] w).alloc (.cells #[.int .i64 a, .int .u64 g, .int .u32 s] 53))
  go_enter Try.func20, Try.ntmps20
  go_wp2
  go_ret3
  exact ⟨rfl, HM.out⟩

set_option maxHeartbeats 400000 in
theorem cCounts_any {w : World} {b : Nat} {fp : List Nat} {n : Nat} {R : List Kept} {c0 c1 t : Nat} (h : IsC w b fp n R c0 c1 t) :
    Calls Try.prog 27 #[.pointer (some ⟨b, 0, none⟩)] w fun e w' => e = .returned (.tuple #[.int .i64 c0, .int .i64 c1]) ∧ ∃ q, w' = w.drewN q := by
  obtain ⟨S, ⟨mb, v, rfl, _, hB, _, _, hk⟩, hs, hr, rfl, rfl, ht⟩ := h
  have a4 := hB.cell (i := 4) rfl
  have a5 := hB.cell (i := 5) rfl
  clear hB hk hr hs ht
  go_enter Try.func27, Try.ntmps27
  go_wp2
  go_quiet (fail)
  go_wp2
  go_ret2
  exact ⟨rfl, nq, rfl⟩

/-- Where an address is, as the map tells it. -/
theorem mapF_prs {E : List Ent} {a : Int} (hn : (E.map Ent.addr).Nodup) : (∃ (i : Nat) (e : Ent), E[i]? = some e ∧ e.addr = a ∧ mapF (prs E) a = some e.ptr) ∨ (a ∉ E.map Ent.addr ∧ mapF (prs E) a = none) := by
  by_cases h : a ∈ E.map Ent.addr
  · obtain ⟨e, he, rfl⟩ := List.mem_map.1 h
    obtain ⟨i, hi⟩ := List.getElem?_of_mem he
    exact .inl ⟨i, e, hi, rfl, (mapF_iff (by rw [prs_fst]; exact hn)).2 (List.mem_map.2 ⟨e, he, rfl⟩)⟩
  · exact .inr ⟨h, mapF_none (by rw [prs_fst]; exact h)⟩

set_option maxHeartbeats 800000 in
theorem cDrop_any {w : World} {b : Nat} {fp : List Nat} {n : Nat} {R : List Kept} {c0 c1 t : Nat} (h : IsC w b fp n R c0 c1 t) (a : Int) :
    Calls Try.prog 25 #[.pointer (some ⟨b, 0, none⟩), .int .i64 a] w fun e w' => e = .returned (.tuple #[]) ∧ ∃ fp1, IsC w' b fp1 n (others a R) c0 c1 t ∧ (∀ k ∈ fp1, k ∈ fp) ∧ Mods fp w w' := by
  obtain ⟨S, hC, hs, hr, h0, h1, ht⟩ := h
  have hC0 := Lib.hid hC
  obtain ⟨mb, v, hfp, _, hB, hM, _, hk⟩ := hC
  have cm := hB.cell (i := 1) (v := .map (some mb)) rfl
  have hz : (zeroValue 112).run Try.prog w = .ok (.pointer none) w := by kernel_rfl
  have hlk := hM.lookup (P := Try.prog) (T := 105) (K := 3) (E := 112) (d := .int .i64) (z := .pointer none) kvC_key Try.underlying105 Try.underlying3 hz a true
  rw [if_pos rfl] at hlk
  simp only [kvC] at hlk
  rcases mapF_prs (a := a) hk.adr with ⟨i, e, hi, rfl, hF⟩ | ⟨hno, hF⟩
  · rw [hF] at hlk
    have hrm := Lib.hid (cRemove_any hC0.out hi)
    have HA := Lib.hid (And.intro hr hk.adr)
    have HE := Lib.hid (And.intro hs (And.intro h0 (And.intro h1 ht)))
    simp only [Option.getD_some, Option.isSome_some, Ent.ptr] at hlk
    clear hB hM hk hr hF hs h0 h1 ht hz hC0 hi
    go_enter Try.func25, Try.ntmps25
    go_wp2_with fail
    refine hrm.out.mono ?_
    rintro x w1 ⟨rfl, E1, fp1, hp, hc, hsub, hm⟩
    have HF : Hid (∃ fp1, IsC w1 b fp1 n (others e.addr R) c0 c1 t ∧ (∀ k ∈ fp1, k ∈ fp) ∧ Mods fp w w1) :=
      ⟨fp1, ⟨_, hc, HE.out.1, rel_filter HA.out.1 HA.out.2 hp, HE.out.2.1, HE.out.2.2.1, HE.out.2.2.2⟩, hsub, hm⟩
    clear hp hc hsub hm
    go_wp2_with fail
    go_end0
    exact ⟨rfl, HF.out⟩
  · rw [hF] at hlk
    simp only [Option.getD_none, Option.isSome_none] at hlk
    have HF : Hid (∃ fp1, IsC w b fp1 n (others a R) c0 c1 t ∧ (∀ k ∈ fp1, k ∈ fp) ∧ Mods fp w w) := by
      refine ⟨fp, ⟨S, hC0.out, hs, ?_, h0, h1, ht⟩, fun k hk => hk, Mods.refl _ _⟩
      rw [others_none]
      · exact hr
      · obtain ⟨D, hp, _, rfl⟩ := hr
        rw [List.map_map]
        intro hx
        exact hno ((hp.map Ent.addr).mem_iff.1 hx)
    clear hB hM hk hr hF hs h0 h1 ht hz hC0 hno
    go_enter Try.func25, Try.ntmps25
    go_wp2_with fail
    go_end0
    exact ⟨rfl, HF.out⟩
end Go.Proofs.Ytahaecieklfhkaa
