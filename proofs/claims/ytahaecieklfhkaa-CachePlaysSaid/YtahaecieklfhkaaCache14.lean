/- The walk of package cache: Get. -/
import Derived.Test.YtahaecieklfhkaaCache13
import Derived.Laws.StructEq
namespace Go.Proofs.Ytahaecieklfhkaa
open Go.RowKit

theorem neq_ptr (a a' : Int) (g g' s s' : Int) (w : World) :
    (binOp .neq 53 (.agg #[.int .i64 a, .int .u64 g, .int .u32 s]) (.agg #[.int .i64 a', .int .u64 g', .int .u32 s'])).run Try.prog w = .ok (.bool (!(a == a' && g == g' && s == s'))) w := by
  have hS : Try.prog.underlying 53 = some (.struct (Try.prog.fieldsOf 53)) := by kernel_rfl
  have hp : Try.prog.stoodInHeld 53 = false := by kernel_rfl
  have u3 := Try.underlying3
  have u4 := Try.underlying25
  have u5 := Try.underlying51
  have a3 := Try.isAgg3
  have a4 := Try.isAgg25
  have a5 := Try.isAgg51
  have z3 := Try.sizeOf3
  have z4 := Try.sizeOf25
  have z5 := Try.sizeOf51
  rw [run_neq_struct, show (10000 : Nat) = 9999 + 1 from rfl, run_equalIn_agg w 9999 53 _ _ hS hp]
  simp only [Program.fieldsOf, Try.underlying53]
  go_simp
  by_cases h1 : a = a' <;> by_cases h2 : g = g' <;> by_cases h3 : s = s' <;> simp [h1, h2, h3]

theorem find_pre {α : Type} {p : α → Bool} : ∀ {l : List α} {x : α}, x ∈ l → p x = true → (∀ y ∈ l, p y = true → y = x) → l.find? p = some x
  | [], x, h, _, _ => by simp at h
  | y :: l, x, h, hx, hu => by
    by_cases hy : p y = true
    · rw [List.find?_cons_of_pos hy, hu y (by simp) hy]
    · rw [List.find?_cons_of_neg hy]
      refine find_pre ?_ hx (fun z hz => hu z (List.mem_cons_of_mem _ hz))
      rcases List.mem_cons.1 h with rfl | h
      · exact absurd hx hy
      · exact h
theorem Kept.is_iff {x : Kept} {a : Int} {g s : Nat} : x.is a g s = true ↔ x.addr = a ∧ x.gen = g ∧ x.sum = s := by
  unfold Kept.is
  simp only [Bool.and_eq_true, decide_eq_true_eq, and_assoc]
theorem nodup_map_inj {α β : Type} {f : α → β} {l : List α} (h : (l.map f).Nodup) {x y : α} (hx : x ∈ l) (hy : y ∈ l) (e : f x = f y) : x = y := by
  obtain ⟨i, hi⟩ := List.getElem?_of_mem hx
  obtain ⟨j, hj⟩ := List.getElem?_of_mem hy
  have a : (l.map f)[i]? = some (f x) := by rw [List.getElem?_map, hi]; rfl
  have b : (l.map f)[j]? = some (f x) := by rw [List.getElem?_map, hj, e]; rfl
  have hij := (List.getElem?_inj (List.getElem?_eq_some_iff.1 a).1 h).1 (a.trans b.symm)
  subst hij
  rw [hi] at hj
  exact Option.some.inj hj
theorem getK_at {E : List Ent} {R : List Kept} (hr : Rel E R) (hn : (E.map Ent.addr).Nodup) {i : Nat} {e : Ent} (he : E[i]? = some e) (g s : Nat) : getK R e.addr g s = if e.gen = g ∧ e.sum = s then some e.body else none := by
  have hn2 := hr.adr hn
  obtain ⟨D, hp, _, rfl⟩ := hr
  have hmem : e.body ∈ D.map Ent.body := List.mem_map.2 ⟨e, hp.mem_iff.2 (List.mem_of_getElem? he), rfl⟩
  unfold getK
  by_cases hc : e.gen = g ∧ e.sum = s
  · rw [if_pos hc]
    refine find_pre hmem (Kept.is_iff.2 ⟨rfl, hc.1, hc.2⟩) (fun y hy hyi => ?_)
    exact nodup_map_inj hn2 hy hmem (Kept.is_iff.1 hyi).1
  · rw [if_neg hc, List.find?_eq_none]
    intro y hy hyi
    obtain ⟨h1, h2, h3⟩ := Kept.is_iff.1 hyi
    have := nodup_map_inj hn2 hy hmem h1
    subst this
    exact hc ⟨h2, h3⟩
theorem getK_no {E : List Ent} {R : List Kept} (hr : Rel E R) {a : Int} (h : a ∉ E.map Ent.addr) (g s : Nat) : getK R a g s = none := by
  obtain ⟨D, hp, _, rfl⟩ := hr
  unfold getK
  rw [List.find?_eq_none]
  intro y hy hyi
  obtain ⟨x, hx, rfl⟩ := List.mem_map.1 hy
  exact h (by rw [← (Kept.is_iff.1 hyi).1]; exact List.mem_map.2 ⟨x, hp.mem_iff.1 hx, rfl⟩)

/-- The cache with another count. -/
theorem IsCache.count {w w1 : World} {b : Nat} {fp : List Nat} {S S1 : CS} (h : IsCache w b fp S) (i : Nat) (u : Value) (e1 : S1.E = S.E) (e2 : ∀ mb v, S1.head mb v = (S.head mb v).set i u) (hok : S1.Ok) (hw : w1 = w.setCell ⟨b, i, none⟩ u) : IsCache w1 b fp S1 ∧ Mods fp w w1 := by
  have hm : Mods [b] w w1 := by rw [hw]; exact (Mods.refl _ _).setCell (p := ⟨b, i, none⟩) (.inl (by simp)) _
  obtain ⟨mb, v, rfl, h1, h2, h3, h4, h5⟩ := h
  have hn : ∀ k ∈ mb :: (obk v ++ S.E.map Ent.blk), k ∉ [b] := fun k hk hx => (List.nodup_cons.1 h1).1 (by rw [List.mem_singleton.1 hx] at hk; exact hk)
  refine ⟨⟨mb, v, by rw [e1], h1, ?_, ?_, ?_, hok⟩, hm.mono (by simp)⟩
  · rw [e2, hw]; exact h2.set i u
  · rw [e1]; exact h3.keep hm (hn mb (by simp))
  · rw [e1]; exact h4.keep hm (fun k hk => hn k (List.mem_cons_of_mem _ hk))

set_option maxRecDepth 100000 in
set_option maxHeartbeats 3200000 in
theorem cGet_miss {w : World} {b : Nat} {fp : List Nat} {n : Nat} {R : List Kept} {c0 c1 t : Nat} (h : IsC w b fp n R c0 c1 t) (a : Int) (gn sm : Nat) (hno : getK R a gn sm = none) (hc : c1 < 10000000000) :
    Calls Try.prog 20 #[.pointer (some ⟨b, 0, none⟩), .agg #[.int .i64 a, .int .u64 gn, .int .u32 sm]] w fun e w' =>
      e = .returned (.tuple #[.int .u8 0, .string ⟨#[]⟩, .bool false]) ∧ IsC w' b fp n R c0 (c1 + 1) t ∧ Mods fp w w' := by
  obtain ⟨w1, hw1⟩ : ∃ w1, w.alloc (.cells #[.int .i64 a, .int .u64 gn, .int .u32 sm] 53) = w1 := ⟨_, rfl⟩
  have hm1 : Mods [] w w1 := by rw [← hw1]; exact (Mods.refl _ _).alloc _
  have hP1 : Blk w1 w.heap.size 53 [.int .i64 a, .int .u64 gn, .int .u32 sm] := by rw [← hw1]; exact Blk.new w 53 _
  have p0 := hP1.cell (i := 0) rfl
  have p1 := hP1.cell (i := 1) rfl
  have p2 := hP1.cell (i := 2) rfl
  obtain ⟨S, hC, hs, hr, h0, h1, hti⟩ := h.keep hm1 (by simp)
  have HC := Lib.hid hC
  obtain ⟨mb, v, hfp, hnd, hB, hM, hO, hok⟩ := hC
  have c1' := hB.cell (i := 1) (v := .map (some mb)) rfl
  have c5' := hB.cell (i := 5) (v := .int .i64 S.f1) rfl
  have f5' := hB.free 5
  have hz : ∀ q, (zeroValue 112).run Try.prog (w1.drewN q) = .ok (.pointer none) (w1.drewN q) := fun q => by kernel_rfl
  have hlk := fun q => (hM.drewN q).lookup (P := Try.prog) (T := 105) (K := 3) (E := 112) (d := .int .i64) (z := .pointer none) kvC_key Try.underlying105 Try.underlying3 (hz q) a true
  simp only [if_true, kvC] at hlk
  have hf1 : S.f1 < 10000000000 := by omega
  have HF : ∀ q1 q2 w9, w9 = (w1.drewN q1).setCell ⟨b, 5, none⟩ (.int .i64 ((S.f1 : Int) + 1)) → IsC (w9.drewN q2) b fp n R c0 (c1 + 1) t ∧ Mods fp w (w9.drewN q2) := by
    intro q1 q2 w9 hw9
    obtain ⟨k1, k2⟩ := (HC.out.drewN q1).count (S1 := { S with f1 := S.f1 + 1 }) 5 (.int .i64 ((S.f1 : Int) + 1)) rfl (fun mb v => rfl) ⟨hok.adr, hok.tik, hok.hp, hok.len, hok.slo, hok.tk, hok.c0, by show S.f1 + 1 < _; omega⟩ hw9
    exact ⟨⟨_, k1.drewN q2, hs, hr, h0, by show S.f1 + 1 = _; omega, hti⟩, (((hm1.mono (by simp)).drewN q1).trans k2 (fun k hk => .inl hk)).drewN q2⟩
  have HFH := Lib.hid HF
  have hne := neq_ptr
  rcases mapF_prs (a := a) hok.adr with ⟨i, e, hi, rfl, hF⟩ | ⟨hnot, hF⟩
  · rw [hF] at hlk
    have hslot := hO.slot i e hi
    have s0 := hslot.cell (i := 0) rfl
    have s1 := hslot.cell (i := 1) rfl
    have s2 := hslot.cell (i := 2) rfl
    rw [getK_at hr hok.adr hi] at hno
    have hdiff : ¬ (e.gen = gn ∧ e.sum = sm) := fun hx => by rw [if_pos hx] at hno; cases hno
    have hdb : ((e.addr == e.addr) && ((e.gen : Int) == (gn : Int)) && ((e.sum : Int) == (sm : Int))) = false := by
      rw [← Bool.not_eq_true]
      simp only [Bool.and_eq_true, beq_iff_eq]
      omega
    have hne2 := fun w => (hne e.addr e.addr e.gen gn e.sum sm w)
    simp only [hdb, Bool.not_false] at hne2
    simp only [Option.getD_some, Option.isSome_some, Ent.ptr] at hlk
    clear hne HF HC hB hM hO hok hr hs hm1 hP1 hslot hi hF hz hfp hnd h0 h1 hti hno hdb hdiff
    go_enter Try.func20, Try.ntmps20
    go_wp2
    go_quiet (fail)
    generalize nq = q1 at *
    go_wp2
    go_quiet (fail)
    clear hlk hne2 s0 s1 s2 p0 p1 p2 c1' hw1
    obtain ⟨W, hW⟩ : ∃ W, (w1.drewN q1).drewN nq = W := ⟨_, rfl⟩
    have d5 : W.cell? ⟨b, 5, none⟩ = some (.int .i64 S.f1) := by rw [← hW]; exact c5'
    have g5 : W.frozen? ⟨b, 5, none⟩ = false := by rw [← hW]; exact f5'
    have HF9 := Lib.hid (HFH.out (q1 + nq) 1 (W.setCell ⟨b, 5, none⟩ (.int .i64 ((S.f1 : Int) + 1))) (by rw [← hW, World.drewN_drewN]))
    rw [hW]
    clear c5' f5' hW HFH
    go_wp2_with fail
    go_region
    all_goals (try go_wp2_with fail)
    all_goals go_ret3
    all_goals exact ⟨rfl, HF9.out⟩
  · rw [hF] at hlk
    simp only [Option.getD_none, Option.isSome_none] at hlk
    clear hne HF HC hB hM hO hok hr hs hm1 hP1 hF hz hfp hnd h0 h1 hti hno hnot
    go_enter Try.func20, Try.ntmps20
    go_wp2
    go_quiet (fail)
    generalize nq = q1 at *
    go_wp2
    go_quiet (fail)
    clear hlk p0 p1 p2 c1' hw1
    obtain ⟨W, hW⟩ : ∃ W, (w1.drewN q1).drewN nq = W := ⟨_, rfl⟩
    have d5 : W.cell? ⟨b, 5, none⟩ = some (.int .i64 S.f1) := by rw [← hW]; exact c5'
    have g5 : W.frozen? ⟨b, 5, none⟩ = false := by rw [← hW]; exact f5'
    have HF9 := Lib.hid (HFH.out (q1 + nq) 1 (W.setCell ⟨b, 5, none⟩ (.int .i64 ((S.f1 : Int) + 1))) (by rw [← hW, World.drewN_drewN]))
    rw [hW]
    clear c5' f5' hW HFH
    go_wp2_with fail
    go_region
    all_goals (try go_wp2_with fail)
    all_goals go_ret3
    all_goals exact ⟨rfl, HF9.out⟩

set_option maxRecDepth 100000 in
set_option maxHeartbeats 3200000 in
theorem cGet_hit {w : World} {b : Nat} {fp : List Nat} {n : Nat} {R : List Kept} {c0 c1 t : Nat} (h : IsC w b fp n R c0 c1 t) (a : Int) (gn sm : Nat) {x : Kept} (hx : getK R a gn sm = some x) (hc : c0 < 10000000000) (ht : t < 10000000000) :
    Calls Try.prog 20 #[.pointer (some ⟨b, 0, none⟩), .agg #[.int .i64 a, .int .u64 gn, .int .u32 sm]] w fun e w' =>
      e = .returned (.tuple #[.int .u8 x.kind, .string x.pay, .bool true]) ∧ ∃ fp1, IsC w' b fp1 n (x :: others a R) (c0 + 1) c1 (t + 1) ∧ Mods fp w w' ∧ ∀ k ∈ fp1, k ∈ fp := by
  obtain ⟨w1, hw1⟩ : ∃ w1, w.alloc (.cells #[.int .i64 a, .int .u64 gn, .int .u32 sm] 53) = w1 := ⟨_, rfl⟩
  have hm1 : Mods [] w w1 := by rw [← hw1]; exact (Mods.refl _ _).alloc _
  have hP1 : Blk w1 w.heap.size 53 [.int .i64 a, .int .u64 gn, .int .u32 sm] := by rw [← hw1]; exact Blk.new w 53 _
  have p0 := hP1.cell (i := 0) rfl
  have p1 := hP1.cell (i := 1) rfl
  have p2 := hP1.cell (i := 2) rfl
  obtain ⟨S, hC, hs, hr, h0, h1, hti⟩ := h.keep hm1 (by simp)
  have HC := Lib.hid hC
  obtain ⟨mb, v, hfp, hnd, hB, hM, hO, hok⟩ := hC
  have c1' := hB.cell (i := 1) (v := .map (some mb)) rfl
  have c4' := hB.cell (i := 4) (v := .int .i64 S.f0) rfl
  have f4' := hB.free 4
  have hz : ∀ q, (zeroValue 112).run Try.prog (w1.drewN q) = .ok (.pointer none) (w1.drewN q) := fun q => by kernel_rfl
  have hlk := fun q => (hM.drewN q).lookup (P := Try.prog) (T := 105) (K := 3) (E := 112) (d := .int .i64) (z := .pointer none) kvC_key Try.underlying105 Try.underlying3 (hz q) a true
  simp only [if_true, kvC] at hlk
  have hf0 : S.f0 < 10000000000 := by omega
  rcases mapF_prs (a := a) hok.adr with ⟨i, e, hi, rfl, hF⟩ | ⟨hnot, hF⟩
  · rw [hF] at hlk
    have hslot := hO.slot i e hi
    have s0 := hslot.cell (i := 0) rfl
    have s1 := hslot.cell (i := 1) rfl
    have s2 := hslot.cell (i := 2) rfl
    rw [getK_at hr hok.adr hi] at hx
    have heq : e.gen = gn ∧ e.sum = sm := by
      by_cases hq : e.gen = gn ∧ e.sum = sm
      · exact hq
      · rw [if_neg hq] at hx; cases hx
    rw [if_pos heq] at hx
    have hx := (Option.some.inj hx).symm
    obtain ⟨rfl, rfl⟩ := heq
    have hne2 := fun w => (neq_ptr e.addr e.addr e.gen e.gen e.sum e.sum w)
    simp only [beq_self_eq_true, Bool.and_self, Bool.not_true] at hne2
    simp only [Option.getD_some, Option.isSome_some, Ent.ptr] at hlk
    have HN := Lib.hid (And.intro hnd (And.intro hok (And.intro hr (And.intro hs (And.intro h0 (And.intro h1 (And.intro hi (And.intro hfp hm1))))))))
    have HX := Lib.hid hx
    have hb1 := hB.lt
    have heb : e.blk ∈ fp := by rw [hfp]; simp only [List.mem_cons, List.mem_append]; exact .inr (.inr (.inr (List.mem_map.2 ⟨e, List.mem_of_getElem? hi, rfl⟩)))
    clear hB hM hO hok hr hs hm1 hP1 hslot hi hF hz hfp hnd h0 h1 hx
    go_enter Try.func20, Try.ntmps20
    go_wp2
    go_quiet (fail)
    generalize nq = q1 at *
    go_wp2
    go_quiet (fail)
    clear hlk hne2 s0 s1 s2 p0 p1 p2 c1' hw1
    obtain ⟨W, hW⟩ : ∃ W, (w1.drewN q1).drewN nq = W := ⟨_, rfl⟩
    have d4 : W.cell? ⟨b, 4, none⟩ = some (.int .i64 S.f0) := by rw [← hW]; exact c4'
    have g4 : W.frozen? ⟨b, 4, none⟩ = false := by rw [← hW]; exact f4'
    have HC2 : Hid (IsCache W b fp S ∧ Mods [] w W) := by
      rw [← hW]
      exact ⟨(HC.out.drewN _).drewN _, (HN.out.2.2.2.2.2.2.2.2.drewN _).drewN _⟩
    rw [hW]
    clear c4' f4' hW HC
    go_wp2_with fail
    go_region
    all_goals
      obtain ⟨W2, hW2⟩ : ∃ W2, (W.setCell ⟨b, 4, none⟩ (.int .i64 ((S.f0 : Int) + 1))).drew = W2 := ⟨_, rfl⟩
      have hW2' : W2 = ((W.setCell ⟨b, 4, none⟩ (.int .i64 ((S.f0 : Int) + 1))).drewN 1) := hW2.symm
      obtain ⟨hcc, hmm⟩ := (HC2.out.1).count (S1 := { S with f0 := S.f0 + 1 }) 4 (.int .i64 ((S.f0 : Int) + 1)) rfl (fun mb v => rfl) (by
        have hok := HN.out.2.1
        exact ⟨hok.adr, hok.tik, hok.hp, hok.len, hok.slo, hok.tk, by show S.f0 + 1 < _; omega, hok.c1⟩) rfl
      have hcd : IsCache W2 b fp { S with f0 := S.f0 + 1 } := by rw [hW2']; exact hcc.drewN 1
      have hmd : Mods fp W W2 := by rw [hW2']; exact hmm.drewN 1
      have HMD := Lib.hid hmd
      obtain ⟨mb2, v2, hfp2, hnd2, hB2, hM2, hO2, hok2⟩ := hcd
      have hi := HN.out.2.2.2.2.2.2.1
      obtain ⟨g, cap, rfl, hH⟩ : ∃ g cap, v2 = .slice (some ⟨g, 0, none⟩) S.E.length cap ∧ HeapW W2 g cap S.E := by
        rcases hO2 with ⟨_, hE⟩ | hO2
        · have hE : S.E = [] := hE
          rw [hE] at hi; simp at hi
        · exact hO2
      have hnd3 := hnd2
      rw [hfp2] at hnd3
      have hbn : b ∉ g :: S.E.map Ent.blk := fun hx => (List.nodup_cons.1 hnd3).1 (List.mem_cons_of_mem _ (by simpa [obk, Value.ownBlock] using hx))
      have hus := Lib.hid (cUse_any (t := S.tick) hH hB2 rfl rfl (by omega) hbn hi (by have := hok2.len; have := hok2.slo; have h3 : S.E.length ≤ S.slots := hok2.len; have h4 : S.slots ≤ 4096 := hok2.slo; omega) hok2.hp)
      have H2 := Lib.hid (And.intro hfp2 (And.intro hnd2 (And.intro hM2 hok2)))
      clear hcc hmm hmd hW2' hfp2 hnd2 hnd3 hB2 hM2 hO2 hok2 hH hbn hi d4 g4
      rw [hW2]
      clear hW2
      go_wp2_with fail
      refine hus.out.mono ?_
      rintro y w8 ⟨rfl, E1, hp1, hH1, hh1, hB1, hm8⟩
      obtain ⟨hnd, hok, hr, hs, h0, h1, hi, hfp, hm1⟩ := HN.out
      obtain ⟨p1, p2⟩ := set_perm (f := e.at (S.tick + 1)) hi
      obtain ⟨j, hj⟩ := List.getElem?_of_mem (hp1.mem_iff.2 (p1.mem_iff.2 (List.mem_cons_self (a := e.at (S.tick + 1)))))
      have hsl := hH1.slot j _ hj
      have k3 : w8.cell? ⟨e.blk, 3, none⟩ = some (.int .u8 e.kind) := hsl.cell (i := 3) rfl
      have k4 : w8.cell? ⟨e.blk, 4, none⟩ = some (.string e.pay) := hsl.cell (i := 4) rfl
      have HF : Hid (∃ fp1, IsC w8 b fp1 n (x :: others e.addr R) (c0 + 1) c1 (t + 1) ∧ Mods fp w w8 ∧ ∀ k ∈ fp1, k ∈ fp) := by
        obtain ⟨hfp2, hnd2, hM2, hok2⟩ := H2.out
        have hfp2 : fp = b :: mb2 :: ([g] ++ S.E.map Ent.blk) := hfp2
        rw [hfp2] at hnd2
        have hblk : (E1.map Ent.blk).Perm (S.E.map Ent.blk) := by
          have a := hp1.map Ent.blk
          rwa [map_blk_set (f := e.at (S.tick + 1)) hi rfl] at a
        have hprs : (prs E1).Perm (prs S.E) := by
          have a := hp1.map (fun x => (x.addr, x.ptr))
          have e1 : (S.E.set i (e.at (S.tick + 1))).map (fun x => (x.addr, x.ptr)) = S.E.map (fun x => (x.addr, x.ptr)) := by
            rw [List.map_set]
            apply List.ext_getElem?
            intro j
            rw [List.getElem?_set]
            by_cases hij : i = j
            · subst hij
              have hil := (List.getElem?_eq_some_iff.1 hi).1
              simp only [if_true, List.length_map, hil, List.getElem?_map, hi, Option.map_some, Ent.at, Ent.ptr]
            · simp [hij]
          rw [e1] at a
          exact a
        have hl1 : E1.length = S.E.length := by have := hp1.length_eq; simpa using this
        have hmn : mb2 ∉ b :: g :: S.E.map Ent.blk := by
          intro hx
          rcases List.mem_cons.1 hx with hx | hx
          · exact (List.nodup_cons.1 hnd2).1 (by rw [hx]; simp)
          · exact (List.nodup_cons.1 (List.nodup_cons.1 hnd2).2).1 (by simpa using hx)
        have hin : ∀ k ∈ b :: g :: S.E.map Ent.blk, k ∈ fp := by
          intro k hk
          rw [hfp2]
          rcases List.mem_cons.1 hk with hk | hk
          · exact List.mem_cons.2 (.inl hk)
          · exact List.mem_cons_of_mem _ (List.mem_cons_of_mem _ (by simpa using hk))
        have hin2 : ∀ k ∈ b :: mb2 :: (obk (.slice (some ⟨g, 0, none⟩) E1.length cap) ++ E1.map Ent.blk), k ∈ fp := by
          intro k hk
          have e1 : obk (.slice (some ⟨g, 0, none⟩) E1.length cap) = [g] := rfl
          rw [e1] at hk
          rw [hfp2]
          simp only [List.mem_cons, List.mem_append, List.not_mem_nil, or_false] at hk ⊢
          rcases hk with hk | hk | hk | hk
          · exact .inl hk
          · exact .inr (.inl hk)
          · exact .inr (.inr (.inl hk))
          · exact .inr (.inr (.inr (hblk.mem_iff.1 hk)))
        refine ⟨b :: mb2 :: (obk (.slice (some ⟨g, 0, none⟩) E1.length cap) ++ E1.map Ent.blk), ⟨⟨S.slots, E1, S.tick + 1, S.f0 + 1, S.f1⟩, ⟨mb2, .slice (some ⟨g, 0, none⟩) E1.length cap, rfl, ?_, ?_, ?_, .inr ⟨g, cap, rfl, hH1⟩, ?_⟩, hs, ?_, by show S.f0 + 1 = _; omega, h1, by show S.tick + 1 ≤ t + 1; omega⟩, ?_, hin2⟩
        · have e1 : obk (.slice (some ⟨g, 0, none⟩) E1.length cap) = [g] := rfl
          rw [e1]
          have hq : (b :: mb2 :: ([g] ++ E1.map Ent.blk)).Perm (b :: mb2 :: ([g] ++ S.E.map Ent.blk)) := List.Perm.cons _ (List.Perm.cons _ (List.Perm.append_left _ hblk))
          exact hq.nodup_iff.2 hnd2
        · rw [hl1]
          exact hB1
        · show MapK kvC w8 mb2 (mapF (prs E1)) E1.length
          rw [mapF_perm hprs (by rw [prs_fst]; exact hok.adr), hl1]
          exact hM2.keep hm8 hmn
        · refine ⟨?_, fun y hy => ?_, hh1, by show E1.length ≤ S.slots; rw [hl1]; exact hok.len, hok.slo, by show S.tick + 1 < _; omega, by show S.f0 + 1 < _; omega, hok.c1⟩
          · have := (hprs.map (·.1)).nodup_iff.2 (by rw [prs_fst]; exact hok.adr)
            rwa [prs_fst] at this
          · show y.used ≤ S.tick + 1
            have hy2 := p1.mem_iff.1 (hp1.mem_iff.1 hy)
            rcases List.mem_cons.1 hy2 with rfl | hy2
            · exact Nat.le_refl _
            · have := hok.tik y (p2.mem_iff.2 (List.mem_cons_of_mem _ hy2)); omega
        · show Rel E1 _
          rw [HX.out]
          exact rel_use hr hok.adr hi hp1 hok.tik
        · have a1 : Mods fp w W := HC2.out.2.mono (by simp)
          exact (a1.trans HMD.out (fun k hk => .inl hk)).trans hm8 (fun k hk => .inl (hin k hk))
      have hkx : x.kind = e.kind ∧ x.pay = e.pay := by rw [HX.out]; exact ⟨rfl, rfl⟩
      clear hnd hok hr hs h0 h1 hi hfp hm1 p1 p2 hj hsl hp1 hH1 hh1 hB1 hm8 H2
      go_wp2_with fail
      go_quiet (fail)
      go_wp2_with fail
      go_ret3
      obtain ⟨fp1, k1, k2, k3⟩ := HF.out
      exact ⟨by rw [hkx.1, hkx.2]; rfl, fp1, k1.drewN _, k2.drewN _, k3⟩
  · rw [getK_no hr hnot] at hx
    cases hx
end Go.Proofs.Ytahaecieklfhkaa
