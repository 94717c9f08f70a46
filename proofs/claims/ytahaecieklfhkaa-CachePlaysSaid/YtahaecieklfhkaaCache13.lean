/- The walk of package cache: Put. -/
import Derived.Test.YtahaecieklfhkaaCache12
namespace Go.Proofs.Ytahaecieklfhkaa
open Go.RowKit

theorem others_len {R : List Kept} {a : Int} : (others a R).length ≤ R.length := List.length_filter_le _ _
theorem others_not {R : List Kept} {a : Int} {k : Nat} : a ∉ ((others a R).take k).map Kept.addr := by
  intro h
  obtain ⟨x, hx, hx2⟩ := List.mem_map.1 h
  have := List.mem_of_mem_take hx
  unfold others at this
  have := (List.mem_filter.1 this).2
  simp only [decide_eq_true_eq] at this
  exact this hx2

set_option maxRecDepth 100000 in
set_option maxHeartbeats 3200000 in
theorem cPut_any {w : World} {b : Nat} {fp : List Nat} {n : Nat} {R : List Kept} {c0 c1 t : Nat} (h : IsC w b fp n R c0 c1 t) (hn1 : 1 ≤ n) (a : Int) (gn sm k : Nat) (pay : ByteArray) (ht : t < 10000000000) :
    Calls Try.prog 19 #[.pointer (some ⟨b, 0, none⟩), .agg #[.int .i64 a, .int .u64 gn, .int .u32 sm], .int .u8 k, .string pay] w fun e w' =>
      e = .returned (.tuple #[]) ∧ ∃ fp1, IsC w' b fp1 n (putK n R ⟨a, gn, sm, k, pay⟩) c0 c1 (t + 1) ∧ Mods fp w w' ∧ ∀ x ∈ fp1, x ∈ fp ∨ w.heap.size ≤ x := by
  have hlt := h.lt
  have hRn := h.len
  obtain ⟨w1, hw1⟩ : ∃ w1, w.alloc (.cells #[.int .i64 a, .int .u64 gn, .int .u32 sm] 53) = w1 := ⟨_, rfl⟩
  have hm1 : Mods [] w w1 := by rw [← hw1]; exact (Mods.refl _ _).alloc _
  have hP1 : Blk w1 w.heap.size 53 [.int .i64 a, .int .u64 gn, .int .u32 sm] := by rw [← hw1]; exact Blk.new w 53 _
  have hd := Lib.hid (cDrop_any (h.keep hm1 (by simp)) a)
  have a0 := hP1.cell (i := 0) rfl
  have HP1 := Lib.hid hP1
  have HM1 := Lib.hid hm1
  have HLT := Lib.hid hlt
  clear h hm1 hP1 hlt
  go_enter Try.func19, Try.ntmps19
  go_wp2_with fail
  clear hw1 a0
  refine hd.out.mono ?_
  rintro x w2 ⟨rfl, fp2, hC2, hsub2, hm2⟩
  have hpf : w.heap.size ∉ fp := fun hx => by have := HLT.out _ hx; omega
  have HP2 := Lib.hid (HP1.out.keep hm2 hpf)
  have HM2 : Hid (Mods fp w w2) := (HM1.out.mono (by simp)).trans hm2 (fun x hx => .inl hx)
  have HS2 := Lib.hid hsub2
  have HC2 := Lib.hid hC2
  have hRl := hC2.len
  obtain ⟨S, hC, hs, hr, h0, h1, hti⟩ := hC2
  have HC := Lib.hid hC
  obtain ⟨mb, v, hfp2, hnd, hB, hM, hO, hok⟩ := hC
  have c0' := hB.cell (i := 0) (v := .int .i64 S.slots) rfl
  have c1' := hB.cell (i := 1) (v := .map (some mb)) rfl
  have c2' := hB.cell (i := 2) (v := v) rfl
  have hln := fun q ty => (hM.drewN q).len (P := Try.prog) (T := 105) Try.underlying105 ty
  have hrl := hr.length
  clear hm2 hsub2 hpf
  by_cases hfull : S.slots ≤ S.E.length
  · have hdec : decide ((S.slots : Int) ≤ (S.E.length : Int)) = true := by simpa using hfull
    obtain ⟨e0, he0⟩ : ∃ e0, S.E[0]? = some e0 := ⟨_, List.getElem?_eq_getElem (by omega)⟩
    obtain ⟨g, cap, rfl, hH⟩ : ∃ g cap, v = .slice (some ⟨g, 0, none⟩) S.E.length cap ∧ HeapW w2 g cap S.E := by
      rcases hO with ⟨_, hE⟩ | hO
      · rw [hE] at he0; simp at he0
      · exact hO
    have cg := hH.at he0
    have hrm := fun q => Lib.hid (cRemove_any (HC.out.drewN q) he0)
    have hmin : ∀ x ∈ S.E, e0.used ≤ x.used := by
      intro x hx
      obtain ⟨j, hj⟩ := List.getElem?_of_mem hx
      have := hp_first hok.hp j (List.getElem?_eq_some_iff.1 hj).1
      rw [useds_at he0, useds_at hj] at this
      exact this
    have HR := Lib.hid (And.intro hr (And.intro hmin (And.intro hs (And.intro h0 (And.intro h1 hti)))))
    have hE0 : 0 < S.E.length := by omega
    have hEb : S.E.length ≤ 4096 := by have := hok.len; have := hok.slo; omega
    have hnE : S.E.length = n := by have := hok.len; omega
    clear hnd hB hM hO hok hH hmin hr he0 h0 h1 hti HC
    generalize hEL : S.E.length = L at *
    generalize hSL : S.slots = sl at *
    have HL := Lib.hid (And.intro hEL hSL)
    clear hEL hSL
    go_wp2_with fail
    go_quiet (fail)
    go_wp2_with fail
    refine (hrm _).out.mono ?_
    rintro x wX ⟨rfl, E1, fpX, hp1, hCX, hsX, hmX⟩
    have HX : Hid (∃ fpX, IsC wX b fpX n ((others a R).take (n - 1)) c0 c1 t ∧ (∀ x ∈ fpX, x ∈ fp) ∧ ((others a R).take (n - 1)).length < n ∧ a ∉ ((others a R).take (n - 1)).map Kept.addr) := by
      obtain ⟨hr, hmin, hs, h0, h1, hti⟩ := HR.out
      refine ⟨fpX, ⟨_, hCX, by rw [← hs]; exact HL.out.2, ?_, h0, h1, hti⟩, fun x hx => HS2.out x (hsX x hx), ?_, others_not⟩
      · have := rel_last hr hp1 hmin
        rw [show (others a R).length = n by omega] at this
        exact this
      · rw [List.length_take]; omega
    have hpn : w.heap.size ∉ fp2 := fun hx => by have := HLT.out _ (HS2.out _ hx); omega
    have HPB : Hid (Blk wX w.heap.size 53 [.int .i64 a, .int .u64 gn, .int .u32 sm]) := (HP2.out.drewN _).keep hmX hpn
    have HMX : Hid (Mods fp w wX) := (HM2.out.drewN _).trans hmX (fun x hx => .inl (HS2.out x hx))
    clear hp1 hCX hsX hmX hpn HR HS2 HC2 hln c0' c1' c2' cg hdec HP2 HM2 hfp2 HL hrm hs hrl hE0 hEb hnE hfull
    obtain ⟨fpX, ⟨S, hC, hs, hr, h0, h1, hti⟩, hsubX, hlX, hnX⟩ := HX.out
    obtain ⟨mb, v, hfpX, hnd, hB, hM, hO, hok⟩ := hC
    rw [hfpX] at hnd
    have hnoE : a ∉ S.E.map Ent.addr := by
      obtain ⟨D, hp, _, hRD⟩ := hr
      intro hx
      refine hnX ?_
      rw [hRD, List.map_map]
      exact (hp.map Ent.addr).mem_iff.2 hx
    have hlen : S.E.length < S.slots := by have := hr.length; rw [hs]; omega
    have hltX : ∀ x ∈ b :: mb :: (obk v ++ S.E.map Ent.blk), x < wX.heap.size := by
      intro x hx
      rcases List.mem_cons.1 hx with rfl | hx
      · exact hB.lt
      rcases List.mem_cons.1 hx with rfl | hx
      · exact hM.lt
      · exact hO.lt x hx
    have c1m := hB.cell (i := 1) (v := .map (some mb)) rfl
    have p0 := HPB.out.cell (i := 0) rfl
    have p1 := HPB.out.cell (i := 1) rfl
    have p2 := HPB.out.cell (i := 2) rfl
    obtain ⟨e, hee⟩ : ∃ e : Ent, e = ⟨wX.heap.size, a, gn, sm, k, pay, 0⟩ := ⟨_, rfl⟩
    obtain ⟨wY, hwY⟩ : ∃ wY, wX.alloc (.cells #[.int .i64 a, .int .u64 gn, .int .u32 sm, .int .u8 k, .string pay, .int .u64 0, .int .i64 0] 114) = wY := ⟨_, rfl⟩
    have hmY : Mods [] wX wY := by rw [← hwY]; exact (Mods.refl _ _).alloc _
    have hSY : Blk wY e.blk 114 (e.cells 0) := by rw [← hwY, hee]; exact Blk.new wX 114 _
    have hpbY : Blk wY w.heap.size 53 [.int .i64 a, .int .u64 gn, .int .u32 sm] := HPB.out.keep hmY (by simp)
    have q0 := hpbY.cell (i := 0) rfl
    have hBY := hB.keep hmY (by simp)
    have c1y := hBY.cell (i := 1) (v := .map (some mb)) rfl
    obtain ⟨w6, hup, hM6, hm6, _⟩ := ((hM.keep hmY (by simp)).drewN 1).update (P := Try.prog) (T := 105) (K := 3) (E := 112) (d := .int .i64) kvC_key kvC_inj Try.underlying105 Try.underlying3 a e.ptr
    have heb : e.blk = wX.heap.size := by rw [hee]
    have hea : e.addr = a := by rw [hee]
    have hup2 : Sem.run Try.prog (Instr.mapUpdate 105 (.map (some mb)) (.int .i64 a) (.pointer (some ⟨wX.heap.size, 0, none⟩))) wY.drew = .ok () w6 := by
      have := hup
      rw [show e.ptr = .pointer (some ⟨wX.heap.size, 0, none⟩) by rw [hee]; rfl] at this
      exact this
    have hmn : ∀ x ∈ b :: (obk v ++ S.E.map Ent.blk), x ∉ [mb] := by
      intro x hx hy
      rw [List.mem_singleton.1 hy] at hx
      simp only [List.nodup_cons, List.mem_cons, not_or] at hnd
      rcases List.mem_cons.1 hx with hx | hx
      · exact hnd.1.1 hx.symm
      · exact hnd.2.1 hx
    have hB6 : Blk w6 b 110 (S.head mb v) := (hBY.drewN 1).keep hm6 (hmn b (by simp))
    have hO6 : OrdW w6 v S.E := ((hO.keep hmY (by simp)).keep ((Mods.refl [] wY).drewN 1) (by simp)).keep hm6 (fun x hx => hmn x (List.mem_cons_of_mem _ hx))
    have hS6 : Blk w6 e.blk 114 (e.cells 0) := (hSY.drewN 1).keep hm6 (by
      intro hx
      have h1 := hltX mb (by simp)
      rw [heb, List.mem_singleton] at hx
      omega)
    have hne6 : e.blk ∉ b :: mb :: (obk v ++ S.E.map Ent.blk) := fun hx => by have := hltX _ hx; omega
    have hps := Lib.hid (hPush_any (p := 0) hO6 hB6 rfl (fun hx => (List.nodup_cons.1 hnd).1 (List.mem_cons_of_mem _ hx)) hS6 (fun hx => hne6 (List.mem_cons_of_mem _ (List.mem_cons_of_mem _ hx))) (fun hx => hne6 (by rw [hx]; simp))
      (by have := hok.slo; omega) hok.hp)
    rw [heb] at hps
    have HK := Lib.hid (And.intro hnd (And.intro hok (And.intro hr (And.intro hs (And.intro hlen (And.intro hnoE (And.intro hne6 (And.intro hfpX (And.intro hsubX (And.intro hltX (And.intro h0 h1)))))))))))
    have HM6 := Lib.hid hM6
    have HMd : Hid (Mods [mb] wX w6) := ((hmY.mono (by simp)).drewN 1).trans hm6 (by simp)
    have htk := hok.tk
    have HE := Lib.hid hee
    have HEB := Lib.hid heb
    have hsz6 : wX.heap.size < w6.heap.size := by rw [← heb]; exact hS6.lt
    clear hnd hB hM hO hok hs hr hlen hnoE hne6 hsubX hfpX hltX h0 h1 hlX hnX HX hSY hpbY hBY hB6 hO6 hS6 hup hM6 hm6 hmY hmn hee heb
    go_wp2_with fail
    clear p0 p1 p2 hwY c1m
    go_region
    all_goals
      go_wp2_with fail
      refine hps.out.mono ?_
      rintro x w7 ⟨rfl, g, cap, E1, hp1, hH7, hh7, hB7, hm7, hg7⟩
      have hl1 : E1.length = S.E.length + 1 := by have := hp1.length_eq; simpa using this
      obtain ⟨i, hi⟩ : ∃ i : Nat, E1[i]? = some e := List.getElem?_of_mem (hp1.mem_iff.2 (by simp))
      have hbg : b ∉ g :: E1.map Ent.blk := by
        obtain ⟨hnd, _, _, _, _, _, hne6, _, _, hltX, _⟩ := HK.out
        intro hx
        have hb0 := hltX b (by simp)
        have hmd := HMd.out.size
        rcases List.mem_cons.1 hx with hx | hx
        · rcases hg7 with hg | hg
          · rw [← hx] at hg
            exact (List.nodup_cons.1 hnd).1 (List.mem_cons_of_mem _ (List.mem_append_left _ hg))
          · omega
        · have hy := (hp1.map Ent.blk).mem_iff.1 hx
          rw [List.map_append] at hy
          rcases List.mem_append.1 hy with hy | hy
          · exact (List.nodup_cons.1 hnd).1 (List.mem_cons_of_mem _ (List.mem_append_right _ hy))
          · simp at hy
            exact hne6 (by rw [← hy]; simp)
      have hus := Lib.hid (cUse_any (t := S.tick) hH7 hB7 rfl rfl (by omega) hbg hi (by have := HK.out.2.1.slo; have := HK.out.2.2.2.2.1; omega) hh7)
      rw [HEB.out] at hus
      have H7 := Lib.hid (And.intro hp1 (And.intro hm7 (And.intro hg7 (And.intro hi hbg))))
      clear hp1 hm7 hg7 hi hbg hH7 hh7 hB7
      go_wp2_with fail
      refine hus.out.mono ?_
      rintro x w8 ⟨rfl, hU⟩
      have HF : Hid (∃ fp1, IsC w8 b fp1 n (putK n R ⟨a, gn, sm, k, pay⟩) c0 c1 (t + 1) ∧ Mods fp w w8 ∧ ∀ x ∈ fp1, x ∈ fp ∨ w.heap.size ≤ x) := by
        obtain ⟨hnd, hok, hr, hs, hlen, hnoE, hne6, hfpX, hsubX, hltX, rfl, rfl⟩ := HK.out
        obtain ⟨hp1, hm7, hg7, hi, hbg⟩ := H7.out
        have hU0 := hU
        obtain ⟨E2, hp2, hH2, hh2, hB2, hm8⟩ := hU
        have hszX := HMX.out.size
        have hgmb : g = mb → False := by
          rintro rfl
          rcases hg7 with hg | hg
          · exact (List.nodup_cons.1 (List.nodup_cons.1 hnd).2).1 (List.mem_append_left _ hg)
          · have := hltX g (by simp); have := HMd.out.size; omega
        have hmb7 : mb ∉ b :: e.blk :: (obk v ++ S.E.map Ent.blk) := by
          intro hx
          rcases List.mem_cons.1 hx with hx | hx
          · exact (List.nodup_cons.1 hnd).1 (by rw [hx]; simp)
          rcases List.mem_cons.1 hx with hx | hx
          · exact hne6 (by rw [← hx]; simp)
          · exact (List.nodup_cons.1 (List.nodup_cons.1 hnd).2).1 hx
        have hmb8 : mb ∉ b :: g :: E1.map Ent.blk := by
          intro hx
          rcases List.mem_cons.1 hx with hx | hx
          · exact hmb7 (by rw [hx]; simp)
          rcases List.mem_cons.1 hx with hx | hx
          · exact hgmb hx.symm
          · have hy := (hp1.map Ent.blk).mem_iff.1 hx
            rw [List.map_append] at hy
            rcases List.mem_append.1 hy with hy | hy
            · exact hmb7 (List.mem_cons_of_mem _ (List.mem_cons_of_mem _ (List.mem_append_right _ hy)))
            · simp at hy; exact hmb7 (by rw [hy]; simp)
        have hM8 : MapK kvC w8 mb (putF (mapF (prs S.E)) e.addr e.ptr) (S.E.length + 1) := by
          have hn : mapF (prs S.E) a = none := mapF_none (by rw [prs_fst]; exact hnoE)
          have := (HM6.out.keep hm7 hmb7).keep hm8 hmb8
          rw [hn] at this
          rw [hea]
          simpa using this
        have hnd2 : (b :: mb :: e.blk :: (obk v ++ S.E.map Ent.blk)).Nodup := by
          have hq : (b :: mb :: e.blk :: (obk v ++ S.E.map Ent.blk)).Perm (e.blk :: b :: mb :: (obk v ++ S.E.map Ent.blk)) := (List.Perm.cons b (List.Perm.swap e.blk mb _)).trans (List.Perm.swap e.blk b _)
          exact hq.nodup_iff.2 (List.nodup_cons.2 ⟨hne6, hnd⟩)
        obtain ⟨fp1, hC, hsub⟩ := put_isCache (n := n) (t := t) hnd2 (by
          rcases hg7 with hg | hg
          · exact .inl hg
          · refine .inr (fun x hx => ?_)
            have hszd := HMd.out.size
            have : x < w6.heap.size := by
              have hx2 : x = e.blk ∨ x ∈ b :: mb :: (obk v ++ S.E.map Ent.blk) := by
                simp only [List.mem_cons] at hx ⊢
                rcases hx with hx | hx | hx | hx
                · exact .inr (.inl hx)
                · exact .inr (.inr (.inl hx))
                · exact .inl hx
                · exact .inr (.inr (.inr hx))
              rcases hx2 with rfl | hx2
              · rw [HEB.out]; exact hsz6
              · have := hltX x hx2; omega
            omega) hp1 hi hok hlen (by rw [hea]; exact hnoE) (by omega) (by rw [HE.out]) hM8 hU0 hr hs hti
        have hb1 : e.body = ⟨a, gn, sm, k, pay⟩ := by rw [HE.out]; rfl
        rw [hb1] at hC
        have hin : ∀ x ∈ b :: mb :: (obk v ++ S.E.map Ent.blk), x ∈ fp := fun x hx => hsubX x (by rw [hfpX]; exact hx)
        refine ⟨fp1, hC, ?_, ?_⟩
        · have a1 : Mods fp w wX := HMX.out
          have a2 := a1.trans HMd.out (fun x hx => .inl (hin x (by rw [List.mem_singleton.1 hx]; simp)))
          have a3 := a2.trans hm7 (fun x hx => by
            rcases List.mem_cons.1 hx with rfl | hx
            · exact .inl (hin _ (by simp))
            rcases List.mem_cons.1 hx with rfl | hx
            · exact .inr (by rw [HEB.out]; exact hszX)
            · exact .inl (hin _ (List.mem_cons_of_mem _ (List.mem_cons_of_mem _ hx))))
          exact a3.trans hm8 (fun x hx => by
            rcases List.mem_cons.1 hx with rfl | hx
            · exact .inl (hin _ (by simp))
            rcases List.mem_cons.1 hx with rfl | hx
            · rcases hg7 with hg | hg
              · exact .inl (hin _ (List.mem_cons_of_mem _ (List.mem_cons_of_mem _ (List.mem_append_left _ hg))))
              · exact .inr (by have := HMd.out.size; omega)
            · have hy := (hp1.map Ent.blk).mem_iff.1 hx
              rw [List.map_append] at hy
              rcases List.mem_append.1 hy with hy | hy
              · exact .inl (hin _ (List.mem_cons_of_mem _ (List.mem_cons_of_mem _ (List.mem_append_right _ hy))))
              · simp at hy; exact .inr (by rw [hy, HEB.out]; exact hszX))
        · intro x hx
          have := hsub x hx
          simp only [List.mem_cons] at this
          rcases this with rfl | rfl | rfl | rfl | hx
          · exact .inl (hin _ (by simp))
          · exact .inl (hin _ (by simp))
          · rcases hg7 with hg | hg
            · exact .inl (hin _ (List.mem_cons_of_mem _ (List.mem_cons_of_mem _ (List.mem_append_left _ hg))))
            · exact .inr (by have := HMd.out.size; omega)
          · exact .inr (by rw [HEB.out]; exact hszX)
          · exact .inl (hin _ (List.mem_cons_of_mem _ (List.mem_cons_of_mem _ hx)))
      clear hU
      go_wp2_with fail
      go_end0
      exact ⟨rfl, HF.out⟩
  · have hdec : decide ((S.slots : Int) ≤ (S.E.length : Int)) = false := by simpa using hfull
    have hlt2 : S.E.length < S.slots := by omega
    have HLN := Lib.hid hrl
    have HS := Lib.hid hs
    clear hnd hB hM hO hok hr h0 h1 hti HC hrl hs c2'
    generalize hEL : S.E.length = L at *
    generalize hSL : S.slots = sl at *
    go_wp2_with fail
    go_quiet (fail)
    obtain ⟨wX, hwX⟩ : ∃ wX, w2.drewN nq = wX := ⟨_, rfl⟩
    have hmX : Mods [] w2 wX := by rw [← hwX]; exact (Mods.refl _ _).drewN _
    rw [hwX]
    have HX : Hid (∃ fpX, IsC wX b fpX n ((others a R).take (n - 1)) c0 c1 t ∧ (∀ x ∈ fpX, x ∈ fp) ∧ ((others a R).take (n - 1)).length < n ∧ a ∉ ((others a R).take (n - 1)).map Kept.addr) := by
      have e1 := HLN.out
      have e2 := HS.out
      refine ⟨fp2, ?_, HS2.out, by rw [List.length_take]; omega, others_not⟩
      rw [List.take_of_length_le (by omega)]
      exact HC2.out.keep hmX (by simp)
    have HPB : Hid (Blk wX w.heap.size 53 [.int .i64 a, .int .u64 gn, .int .u32 sm]) := HP2.out.keep hmX (by simp)
    have HMX : Hid (Mods fp w wX) := HM2.out.trans hmX (by simp)
    clear hmX HS2 HC2 hln c0' c1' hdec HP2 HM2 hfp2 HLN HS hwX hEL hSL hlt2 hfull
    obtain ⟨fpX, ⟨S, hC, hs, hr, h0, h1, hti⟩, hsubX, hlX, hnX⟩ := HX.out
    obtain ⟨mb, v, hfpX, hnd, hB, hM, hO, hok⟩ := hC
    rw [hfpX] at hnd
    have hnoE : a ∉ S.E.map Ent.addr := by
      obtain ⟨D, hp, _, hRD⟩ := hr
      intro hx
      refine hnX ?_
      rw [hRD, List.map_map]
      exact (hp.map Ent.addr).mem_iff.2 hx
    have hlen : S.E.length < S.slots := by have := hr.length; rw [hs]; omega
    have hltX : ∀ x ∈ b :: mb :: (obk v ++ S.E.map Ent.blk), x < wX.heap.size := by
      intro x hx
      rcases List.mem_cons.1 hx with rfl | hx
      · exact hB.lt
      rcases List.mem_cons.1 hx with rfl | hx
      · exact hM.lt
      · exact hO.lt x hx
    have c1m := hB.cell (i := 1) (v := .map (some mb)) rfl
    have p0 := HPB.out.cell (i := 0) rfl
    have p1 := HPB.out.cell (i := 1) rfl
    have p2 := HPB.out.cell (i := 2) rfl
    obtain ⟨e, hee⟩ : ∃ e : Ent, e = ⟨wX.heap.size, a, gn, sm, k, pay, 0⟩ := ⟨_, rfl⟩
    obtain ⟨wY, hwY⟩ : ∃ wY, wX.alloc (.cells #[.int .i64 a, .int .u64 gn, .int .u32 sm, .int .u8 k, .string pay, .int .u64 0, .int .i64 0] 114) = wY := ⟨_, rfl⟩
    have hmY : Mods [] wX wY := by rw [← hwY]; exact (Mods.refl _ _).alloc _
    have hSY : Blk wY e.blk 114 (e.cells 0) := by rw [← hwY, hee]; exact Blk.new wX 114 _
    have hpbY : Blk wY w.heap.size 53 [.int .i64 a, .int .u64 gn, .int .u32 sm] := HPB.out.keep hmY (by simp)
    have q0 := hpbY.cell (i := 0) rfl
    have hBY := hB.keep hmY (by simp)
    have c1y := hBY.cell (i := 1) (v := .map (some mb)) rfl
    obtain ⟨w6, hup, hM6, hm6, _⟩ := ((hM.keep hmY (by simp)).drewN 1).update (P := Try.prog) (T := 105) (K := 3) (E := 112) (d := .int .i64) kvC_key kvC_inj Try.underlying105 Try.underlying3 a e.ptr
    have heb : e.blk = wX.heap.size := by rw [hee]
    have hea : e.addr = a := by rw [hee]
    have hup2 : Sem.run Try.prog (Instr.mapUpdate 105 (.map (some mb)) (.int .i64 a) (.pointer (some ⟨wX.heap.size, 0, none⟩))) wY.drew = .ok () w6 := by
      have := hup
      rw [show e.ptr = .pointer (some ⟨wX.heap.size, 0, none⟩) by rw [hee]; rfl] at this
      exact this
    have hmn : ∀ x ∈ b :: (obk v ++ S.E.map Ent.blk), x ∉ [mb] := by
      intro x hx hy
      rw [List.mem_singleton.1 hy] at hx
      simp only [List.nodup_cons, List.mem_cons, not_or] at hnd
      rcases List.mem_cons.1 hx with hx | hx
      · exact hnd.1.1 hx.symm
      · exact hnd.2.1 hx
    have hB6 : Blk w6 b 110 (S.head mb v) := (hBY.drewN 1).keep hm6 (hmn b (by simp))
    have hO6 : OrdW w6 v S.E := ((hO.keep hmY (by simp)).keep ((Mods.refl [] wY).drewN 1) (by simp)).keep hm6 (fun x hx => hmn x (List.mem_cons_of_mem _ hx))
    have hS6 : Blk w6 e.blk 114 (e.cells 0) := (hSY.drewN 1).keep hm6 (by
      intro hx
      have h1 := hltX mb (by simp)
      rw [heb, List.mem_singleton] at hx
      omega)
    have hne6 : e.blk ∉ b :: mb :: (obk v ++ S.E.map Ent.blk) := fun hx => by have := hltX _ hx; omega
    have hps := Lib.hid (hPush_any (p := 0) hO6 hB6 rfl (fun hx => (List.nodup_cons.1 hnd).1 (List.mem_cons_of_mem _ hx)) hS6 (fun hx => hne6 (List.mem_cons_of_mem _ (List.mem_cons_of_mem _ hx))) (fun hx => hne6 (by rw [hx]; simp))
      (by have := hok.slo; omega) hok.hp)
    rw [heb] at hps
    have HK := Lib.hid (And.intro hnd (And.intro hok (And.intro hr (And.intro hs (And.intro hlen (And.intro hnoE (And.intro hne6 (And.intro hfpX (And.intro hsubX (And.intro hltX (And.intro h0 h1)))))))))))
    have HM6 := Lib.hid hM6
    have HMd : Hid (Mods [mb] wX w6) := ((hmY.mono (by simp)).drewN 1).trans hm6 (by simp)
    have htk := hok.tk
    have HE := Lib.hid hee
    have HEB := Lib.hid heb
    have hsz6 : wX.heap.size < w6.heap.size := by rw [← heb]; exact hS6.lt
    clear hnd hB hM hO hok hs hr hlen hnoE hne6 hsubX hfpX hltX h0 h1 hlX hnX HX hSY hpbY hBY hB6 hO6 hS6 hup hM6 hm6 hmY hmn hee heb
    go_wp2_with fail
    clear p0 p1 p2 hwY c1m
    go_region
    all_goals
      go_wp2_with fail
      refine hps.out.mono ?_
      rintro x w7 ⟨rfl, g, cap, E1, hp1, hH7, hh7, hB7, hm7, hg7⟩
      have hl1 : E1.length = S.E.length + 1 := by have := hp1.length_eq; simpa using this
      obtain ⟨i, hi⟩ : ∃ i : Nat, E1[i]? = some e := List.getElem?_of_mem (hp1.mem_iff.2 (by simp))
      have hbg : b ∉ g :: E1.map Ent.blk := by
        obtain ⟨hnd, _, _, _, _, _, hne6, _, _, hltX, _⟩ := HK.out
        intro hx
        have hb0 := hltX b (by simp)
        have hmd := HMd.out.size
        rcases List.mem_cons.1 hx with hx | hx
        · rcases hg7 with hg | hg
          · rw [← hx] at hg
            exact (List.nodup_cons.1 hnd).1 (List.mem_cons_of_mem _ (List.mem_append_left _ hg))
          · omega
        · have hy := (hp1.map Ent.blk).mem_iff.1 hx
          rw [List.map_append] at hy
          rcases List.mem_append.1 hy with hy | hy
          · exact (List.nodup_cons.1 hnd).1 (List.mem_cons_of_mem _ (List.mem_append_right _ hy))
          · simp at hy
            exact hne6 (by rw [← hy]; simp)
      have hus := Lib.hid (cUse_any (t := S.tick) hH7 hB7 rfl rfl (by omega) hbg hi (by have := HK.out.2.1.slo; have := HK.out.2.2.2.2.1; omega) hh7)
      rw [HEB.out] at hus
      have H7 := Lib.hid (And.intro hp1 (And.intro hm7 (And.intro hg7 (And.intro hi hbg))))
      clear hp1 hm7 hg7 hi hbg hH7 hh7 hB7
      go_wp2_with fail
      refine hus.out.mono ?_
      rintro x w8 ⟨rfl, hU⟩
      have HF : Hid (∃ fp1, IsC w8 b fp1 n (putK n R ⟨a, gn, sm, k, pay⟩) c0 c1 (t + 1) ∧ Mods fp w w8 ∧ ∀ x ∈ fp1, x ∈ fp ∨ w.heap.size ≤ x) := by
        obtain ⟨hnd, hok, hr, hs, hlen, hnoE, hne6, hfpX, hsubX, hltX, rfl, rfl⟩ := HK.out
        obtain ⟨hp1, hm7, hg7, hi, hbg⟩ := H7.out
        have hU0 := hU
        obtain ⟨E2, hp2, hH2, hh2, hB2, hm8⟩ := hU
        have hszX := HMX.out.size
        have hgmb : g = mb → False := by
          rintro rfl
          rcases hg7 with hg | hg
          · exact (List.nodup_cons.1 (List.nodup_cons.1 hnd).2).1 (List.mem_append_left _ hg)
          · have := hltX g (by simp); have := HMd.out.size; omega
        have hmb7 : mb ∉ b :: e.blk :: (obk v ++ S.E.map Ent.blk) := by
          intro hx
          rcases List.mem_cons.1 hx with hx | hx
          · exact (List.nodup_cons.1 hnd).1 (by rw [hx]; simp)
          rcases List.mem_cons.1 hx with hx | hx
          · exact hne6 (by rw [← hx]; simp)
          · exact (List.nodup_cons.1 (List.nodup_cons.1 hnd).2).1 hx
        have hmb8 : mb ∉ b :: g :: E1.map Ent.blk := by
          intro hx
          rcases List.mem_cons.1 hx with hx | hx
          · exact hmb7 (by rw [hx]; simp)
          rcases List.mem_cons.1 hx with hx | hx
          · exact hgmb hx.symm
          · have hy := (hp1.map Ent.blk).mem_iff.1 hx
            rw [List.map_append] at hy
            rcases List.mem_append.1 hy with hy | hy
            · exact hmb7 (List.mem_cons_of_mem _ (List.mem_cons_of_mem _ (List.mem_append_right _ hy)))
            · simp at hy; exact hmb7 (by rw [hy]; simp)
        have hM8 : MapK kvC w8 mb (putF (mapF (prs S.E)) e.addr e.ptr) (S.E.length + 1) := by
          have hn : mapF (prs S.E) a = none := mapF_none (by rw [prs_fst]; exact hnoE)
          have := (HM6.out.keep hm7 hmb7).keep hm8 hmb8
          rw [hn] at this
          rw [hea]
          simpa using this
        have hnd2 : (b :: mb :: e.blk :: (obk v ++ S.E.map Ent.blk)).Nodup := by
          have hq : (b :: mb :: e.blk :: (obk v ++ S.E.map Ent.blk)).Perm (e.blk :: b :: mb :: (obk v ++ S.E.map Ent.blk)) := (List.Perm.cons b (List.Perm.swap e.blk mb _)).trans (List.Perm.swap e.blk b _)
          exact hq.nodup_iff.2 (List.nodup_cons.2 ⟨hne6, hnd⟩)
        obtain ⟨fp1, hC, hsub⟩ := put_isCache (n := n) (t := t) hnd2 (by
          rcases hg7 with hg | hg
          · exact .inl hg
          · refine .inr (fun x hx => ?_)
            have hszd := HMd.out.size
            have : x < w6.heap.size := by
              have hx2 : x = e.blk ∨ x ∈ b :: mb :: (obk v ++ S.E.map Ent.blk) := by
                simp only [List.mem_cons] at hx ⊢
                rcases hx with hx | hx | hx | hx
                · exact .inr (.inl hx)
                · exact .inr (.inr (.inl hx))
                · exact .inl hx
                · exact .inr (.inr (.inr hx))
              rcases hx2 with rfl | hx2
              · rw [HEB.out]; exact hsz6
              · have := hltX x hx2; omega
            omega) hp1 hi hok hlen (by rw [hea]; exact hnoE) (by omega) (by rw [HE.out]) hM8 hU0 hr hs hti
        have hb1 : e.body = ⟨a, gn, sm, k, pay⟩ := by rw [HE.out]; rfl
        rw [hb1] at hC
        have hin : ∀ x ∈ b :: mb :: (obk v ++ S.E.map Ent.blk), x ∈ fp := fun x hx => hsubX x (by rw [hfpX]; exact hx)
        refine ⟨fp1, hC, ?_, ?_⟩
        · have a1 : Mods fp w wX := HMX.out
          have a2 := a1.trans HMd.out (fun x hx => .inl (hin x (by rw [List.mem_singleton.1 hx]; simp)))
          have a3 := a2.trans hm7 (fun x hx => by
            rcases List.mem_cons.1 hx with rfl | hx
            · exact .inl (hin _ (by simp))
            rcases List.mem_cons.1 hx with rfl | hx
            · exact .inr (by rw [HEB.out]; exact hszX)
            · exact .inl (hin _ (List.mem_cons_of_mem _ (List.mem_cons_of_mem _ hx))))
          exact a3.trans hm8 (fun x hx => by
            rcases List.mem_cons.1 hx with rfl | hx
            · exact .inl (hin _ (by simp))
            rcases List.mem_cons.1 hx with rfl | hx
            · rcases hg7 with hg | hg
              · exact .inl (hin _ (List.mem_cons_of_mem _ (List.mem_cons_of_mem _ (List.mem_append_left _ hg))))
              · exact .inr (by have := HMd.out.size; omega)
            · have hy := (hp1.map Ent.blk).mem_iff.1 hx
              rw [List.map_append] at hy
              rcases List.mem_append.1 hy with hy | hy
              · exact .inl (hin _ (List.mem_cons_of_mem _ (List.mem_cons_of_mem _ (List.mem_append_right _ hy))))
              · simp at hy; exact .inr (by rw [hy, HEB.out]; exact hszX))
        · intro x hx
          have := hsub x hx
          simp only [List.mem_cons] at this
          rcases this with rfl | rfl | rfl | rfl | hx
          · exact .inl (hin _ (by simp))
          · exact .inl (hin _ (by simp))
          · rcases hg7 with hg | hg
            · exact .inl (hin _ (List.mem_cons_of_mem _ (List.mem_cons_of_mem _ (List.mem_append_left _ hg))))
            · exact .inr (by have := HMd.out.size; omega)
          · exact .inr (by rw [HEB.out]; exact hszX)
          · exact .inl (hin _ (List.mem_cons_of_mem _ (List.mem_cons_of_mem _ hx)))
      clear hU
      go_wp2_with fail
      go_end0
      exact ⟨rfl, HF.out⟩
end Go.Proofs.Ytahaecieklfhkaa
