/- The document's On: an update done to a list of entries by rising keys (written by mplays2.py). -/
import Derived.Test.YtahaecieklfhkaaMPlays1
namespace Go.Proofs.Ytahaecieklfhkaa
open Go.RowKit
/-- One round of On: is it put yet, and what there is so far. -/
def stOn (k v : ByteArray) (s : Bool × Ents) (x : ByteArray × ByteArray) : Bool × Ents :=
  let s1 : Bool × Ents := if s.1 = false ∧ blt x.1 k = false then (true, s.2 ++ [(k, v)]) else s
  (s1.1, if x.1 = k then s1.2 else s1.2 ++ [x])
def finOn (k v : ByteArray) (s : Bool × Ents) : Ents := if s.1 = true then s.2 else s.2 ++ [(k, v)]
theorem foldOn_snoc (k v : ByteArray) (s : Bool × Ents) (L : Ents) (x : ByteArray × ByteArray) : (L ++ [x]).foldl (stOn k v) s = stOn k v (L.foldl (stOn k v) s) x := by
  rw [List.foldl_append]; rfl
theorem foldOn_del (k v : ByteArray) : ∀ (L : Ents) (P : Ents), L.foldl (stOn k v) (true, P) = (true, P ++ delE L k)
  | [], P => by simp [delE]
  | x :: L, P => by
    rw [List.foldl_cons]
    have h : stOn k v (true, P) x = (true, if x.1 = k then P else P ++ [x]) := by simp [stOn]
    rw [h, foldOn_del k v L]
    by_cases hx : x.1 = k
    · simp [delE, hx]
    · simp [delE, hx]
theorem blt_total {a b : ByteArray} (h : blt a b = false) (hne : a ≠ b) : blt b a = true := by
  rcases blt_tri a b with h1 | h1 | h1
  · rw [h] at h1; cases h1
  · exact absurd h1 hne
  · exact h1
theorem blt_between {a k x : ByteArray} (h : blt a k = false) (h2 : blt a x = true) : blt k x = true := by
  rcases blt_tri a k with h1 | h1 | h1
  · rw [h] at h1; cases h1
  · rw [← h1]; exact h2
  · exact blt_trans h1 h2
theorem foldOn_ins (k v : ByteArray) : ∀ (n : Nat) (L : Ents), L.length = n → Rising L →
    (L.foldl (stOn k v) (false, []) = (false, L) ∧ (∀ a ∈ L, blt a.1 k = true)) ∨ (L.foldl (stOn k v) (false, []) = (true, insE L k v) ∧ ∃ a ∈ L, blt a.1 k = false)
  | 0, L, hn, _ => by
    obtain rfl : L = [] := List.eq_nil_of_length_eq_zero hn
    exact .inl ⟨rfl, fun a ha => by cases ha⟩
  | n + 1, L, hn, hr => by
    have hne : L ≠ [] := by intro e; rw [e] at hn; cases hn
    obtain ⟨L1, x, rfl⟩ : ∃ L1 x, L = L1 ++ [x] := ⟨L.dropLast, L.getLast hne, (List.dropLast_concat_getLast hne).symm⟩
    have hr1 : Rising L1 := (List.pairwise_append.1 hr).1
    have hlt : ∀ a ∈ L1, blt a.1 x.1 = true := fun a ha => (List.pairwise_append.1 hr).2.2 a ha x (by simp)
    obtain ⟨s1, s2, s3⟩ := ins_snoc L1 x k v hr
    rw [foldOn_snoc]
    rcases foldOn_ins k v n L1 (by simpa using hn) hr1 with ⟨h1, h2⟩ | ⟨h1, a, ha, h2⟩
    · rw [h1]
      cases hb : blt x.1 k with
      | true =>
        have hne2 : x.1 ≠ k := blt_ne hb
        refine .inl ⟨by simp [stOn, hb, hne2], fun a ha => ?_⟩
        rcases List.mem_append.1 ha with ha | ha
        · exact h2 a ha
        · rw [List.mem_singleton.1 ha]; exact hb
      | false =>
        refine .inr ⟨?_, x, by simp, hb⟩
        by_cases hx : x.1 = k
        · rw [s2 hx]; simp [stOn, hx, blt_irrefl]
        · have hkx : blt k x.1 = true := blt_total hb hx
          rw [s3 hkx, ins_all h2]; simp [stOn, hb, hx]
    · rw [h1]
      have hkx : blt k x.1 = true := blt_between h2 (hlt a ha)
      have hx : x.1 ≠ k := fun e => by rw [e, blt_irrefl] at hkx; cases hkx
      refine .inr ⟨?_, a, by simp [ha], h2⟩
      rw [s3 hkx]; simp [stOn, hx]
theorem on_eq {E : Ents} (hr : Rising E) (u : Upd) : finOn u.key ((onV (getE E u.key) u).getD ⟨#[]⟩) (E.foldl (stOn u.key ((onV (getE E u.key) u).getD ⟨#[]⟩)) (!(onV (getE E u.key) u).isSome, [])) = doE E u := by
  unfold doE
  cases h : onV (getE E u.key) u with
  | none =>
    simp only [Option.isSome_none, Bool.not_false]
    rw [foldOn_del]
    simp [finOn]
  | some v =>
    simp only [Option.isSome_some, Bool.not_true, Option.getD_some]
    rcases foldOn_ins u.key v E.length E rfl hr with ⟨h1, h2⟩ | ⟨h1, _⟩
    · rw [h1, ins_all h2]; simp [finOn]
    · rw [h1]; simp [finOn]
set_option maxRecDepth 100000 in
set_option maxHeartbeats 6400000 in
theorem rOn16_any {W : World} {A : Option Addr} {E : Ents} {n c : Nat} (hr : Row W A (eRow E)) (hn : E.length = n) (hsm : n < 1000000) (hup : Rising E) (u : Upd) (hc : checkU u = 0) (hmay : mayU (getE E u.key) u) :
    Calls Try.prog 32 #[.slice A n c, updV u] W fun e w' => ∃ B d m, e = .returned (.slice B m d) ∧ (doE E u).length = m ∧ w'.ownsRow W.heap.size 88 2 (.slice B m d) m (eRow (doE E u)) ∧ Mods [] W w' := by
  have HR := Lib.hid hr
  have HN := Lib.hid hn
  have HC := Lib.hid (And.intro hc hmay)
  have HE := Lib.hid (on_eq hup u)
  obtain ⟨hk16, hv32, hk1, hk3⟩ := checkU_0 hc
  clear hr hn hc hmay
  obtain ⟨i0, hi0, hz0, hz1, hz2⟩ := info_parts info_entry16
  obtain ⟨w1, hw1⟩ : ∃ w1, W.alloc (.cells #[.int .u8 (u.kind : Nat), .string u.key, .string u.val, .int .u64 (u.delta : Nat)] 31) = w1 := ⟨_, rfl⟩
  have hB : Blk w1 W.heap.size 31 [.int .u8 (u.kind : Nat), .string u.key, .string u.val, .int .u64 (u.delta : Nat)] := by rw [← hw1]; exact Blk.new W 31 _
  have hm : Mods [] W w1 := by rw [← hw1]; exact (Mods.refl _ _).alloc _
  have c0 := hB.cell (i := 0) rfl
  have c1 := hB.cell (i := 1) rfl
  have c2 := hB.cell (i := 2) rfl
  have c3 := hB.cell (i := 3) rfl
  have HM := Lib.hid hm
  have HB := Lib.hid hB
  have hw1' := Lib.hid hw1
  clear hw1 hm hB
  rw [updV]
  go_enter Try.func32, Try.ntmps32
  go_wp2_with fail
  rw [hw1'.out]
  go_wp2_with fail
  refine (rCheck12_any u).mono ?_
  rintro x w2 ⟨rfl, hm2⟩
  rw [HC.out.1]
  have HB2 := Lib.hid (HB.out.keep hm2 (by simp))
  have HM2 := Lib.hid (HM.out.trans hm2 (by simp))
  clear c0 c1 c2 c3 hm2 HB HM hw1'
  have c0 := HB2.out.cell (i := 0) rfl
  have c1 := HB2.out.cell (i := 1) rfl
  have c2 := HB2.out.cell (i := 2) rfl
  have c3 := HB2.out.cell (i := 3) rfl
  go_wp2_with fail
  refine (rGet16_any (HR.out.keep HM2.out (fun _ _ => by simp)) HN.out hsm u.key).mono ?_
  rintro x w3 ⟨rfl, rfl⟩
  go_wp2_with fail
  refine (rOn14_any (getE E u.key) u HC.out.2 hk1 hk3).mono ?_
  rintro x w3 ⟨rfl, hm3⟩
  have HB3 := Lib.hid (HB2.out.keep hm3 (by simp))
  have HM3 := Lib.hid (HM2.out.trans hm3 (by simp))
  clear c0 c1 c2 c3 hm3 HB2 HM2
  obtain ⟨v, hv⟩ : ∃ v, (onV (getE E u.key) u).getD ⟨#[]⟩ = v := ⟨_, rfl⟩
  obtain ⟨s, hs⟩ : ∃ s, (onV (getE E u.key) u).isSome = s := ⟨_, rfl⟩
  have HE2 : Hid (finOn u.key v (E.foldl (stOn u.key v) (!s, [])) = doE E u) := by rw [← hv, ← hs]; exact HE.out
  rw [hv, hs]
  clear HE hv hs
  obtain ⟨k, hk⟩ : ∃ k, u.key = k := ⟨_, rfl⟩
  have HB4 : Hid (Blk w3 W.heap.size 31 [.int .u8 (u.kind : Nat), .string k, .string u.val, .int .u64 (u.delta : Nat)]) := by rw [← hk]; exact HB3.out
  have HE3 : Hid (finOn k v (E.foldl (stOn k v) (!s, [])) = doE E u) := by rw [← hk]; exact HE2.out
  clear HB3 HE2 hk hk16 hv32 hk1 hk3 HC
  go_wp2_with fail
  go_loopw [10, 11, 12] (fun ov dv iv wr => ∃ (j : Nat) (dn : Bool) (P : Ents), j ≤ n ∧ iv = .int .i64 j ∧ dv = .bool dn ∧ wr.ownsRow w3.heap.size 88 2 ov P.length (eRow P) ∧ P.length ≤ 2 * j ∧ Mods [] w3 wr ∧ (E.take j).foldl (stOn k v) (!s, []) = (dn, P)) (fun _ _ iv _ => n - (intOf iv).toNat)
  case atStart => exact ⟨0, !s, [], Nat.zero_le _, rfl, rfl, by simpa [eRow] using World.ownsRow_nil _ _ _ _, by simp, Mods.refl _ _, rfl⟩
  case round =>
    obtain ⟨j, dn, P, hj, rfl, rfl, hown, hPj, hm, hf⟩ := hrel
    have hsz := HM3.out.size
    have hsz2 := hm.size
    have HO := Lib.hid hown
    have HM := Lib.hid hm
    have hBr := HB4.out.keep hm (by simp)
    have kc := hBr.cell (i := 1) rfl
    have HF := Lib.hid hf
    obtain ⟨m, hPm⟩ : ∃ m, P.length = m := ⟨_, rfl⟩
    rw [hPm] at HO hPj
    have HPM := Lib.hid hPm
    clear hown hf hBr hPm
    by_cases hjl : j < n
    · obtain ⟨x, hx⟩ : ∃ x, E[j]? = some x := ⟨_, List.getElem?_eq_getElem (by rw [HN.out]; exact hjl)⟩
      obtain ⟨bb, ob, rfl, c0, c1⟩ := eRow_at ((HR.out.keep HM3.out (fun _ _ => by simp)).keep hm (fun _ _ => by simp)) hx
      have ht : E.take (j + 1) = E.take j ++ [x] := by rw [List.take_add_one, hx]; rfl
      have HT := Lib.hid ht
      obtain ⟨x1, x2⟩ := x
      simp only at c0 c1
      have HX0 := Lib.hid hx
      clear hm hx ht
      cases dn
      · cases hlt : Op.bytesLess x1.toList k.toList
        · by_cases hk : x1 = k
          · have hk2 : (x1.toList == k.toList) = true := by rw [hk]; simp
            have HX := Lib.hid hk
            have hlt2 := Lib.hid (show blt x1 k = false from hlt)
            clear hk
            go_wp2_with fail
            go_quiet (fail)
            obtain ⟨wq, hwwq⟩ : ∃ wq, wr.drewN nq = wq := ⟨_, rfl⟩
            have c0wq : wq.cell? ⟨bb, ob + j * 2, none⟩ = some (.string x1) := by rw [← hwwq]; exact c0
            have c1wq : wq.cell? ⟨bb, ob + j * 2 + 1, none⟩ = some (.string x2) := by rw [← hwwq]; exact c1
            have kcwq : wq.cell? ⟨W.heap.size, 1, none⟩ = some (.string k) := by rw [← hwwq]; exact kc
            have HOwq := Lib.hid (owns_keepM HO.out ((Mods.refl [] wr).drewN nq) (by simp))
            have HMwq := Lib.hid (HM.out.drewN nq)
            have hszwq : wr.heap.size ≤ (wr.drewN nq).heap.size := Nat.le_refl _
            rw [hwwq] at HOwq HMwq hszwq ⊢
            clear hwwq c0 c1 kc HO HM nq
            have c0 := c0wq
            have c1 := c1wq
            have kc := kcwq
            have HO := HOwq
            have HM := HMwq
            clear c0wq c1wq kcwq HOwq HMwq
            go_wp2_with (at_builtin; refine wpList_append_own _ rfl (.tmp 52) (.tmp 57) 79 rfl w3.heap.size 88 i0 (.agg #[.string ⟨#[]⟩, .string ⟨#[]⟩]) 2 32 Try.underlying79 hi0 hz0 hz1 hz2 rfl (by decide) _ _ _ rfl (HO.out.alloc _) ⟨wq.heap.size, 0, none⟩ 1 1 (ecells (k, v)) rfl rfl (fun j u hj => by rw [addr_add0]; exact (Blk.new wq 88 (ecells (k, v))).cell hj) (by simp [ecells, Value.oneCell']) (by unfold maxLen; omega) (by omega) (by simp; omega) ?_; intro v5 w5 hown5 hg5 _)
            have hm5 : Mods [] w3 w5 := (HM.out.alloc _).grown hg5 (fun q hq => .inr (HO.out.lt q hq).1)
            have HO5 := Lib.hid hown5
            have HM5 := Lib.hid hm5
            clear c0 c1 kc
            have hsz5 := hm5.size
            clear hown5 hg5
            have c0 : w5.cell? ⟨bb, ob + j * 2, none⟩ = some (.string x1) ∧ w5.cell? ⟨bb, ob + j * 2 + 1, none⟩ = some (.string x2) := by
              obtain ⟨b1, o1, e, d0, d1⟩ := eRow_at ((HR.out.keep HM3.out (fun _ _ => by simp)).keep hm5 (fun _ _ => by simp)) HX0.out
              injection e with e; injection e with e1 e2
              subst e1 e2
              exact ⟨d0, d1⟩
            obtain ⟨c0, c1⟩ := c0
            have kc := (HB4.out.keep hm5 (by simp)).cell (i := 1) rfl
            clear HO HM hm5
            go_wp2_with fail
            go_quiet (fail)
            obtain ⟨wp, hwwp⟩ : ∃ wp, w5.drewN nq = wp := ⟨_, rfl⟩
            have c0wp : wp.cell? ⟨bb, ob + j * 2, none⟩ = some (.string x1) := by rw [← hwwp]; exact c0
            have c1wp : wp.cell? ⟨bb, ob + j * 2 + 1, none⟩ = some (.string x2) := by rw [← hwwp]; exact c1
            have kcwp : wp.cell? ⟨W.heap.size, 1, none⟩ = some (.string k) := by rw [← hwwp]; exact kc
            have HO5wp := Lib.hid (owns_keepM HO5.out ((Mods.refl [] w5).drewN nq) (by simp))
            have HM5wp := Lib.hid (HM5.out.drewN nq)
            have hszwp : w5.heap.size ≤ (w5.drewN nq).heap.size := Nat.le_refl _
            rw [hwwp] at HO5wp HM5wp hszwp ⊢
            clear hwwp c0 c1 kc HO5 HM5 nq
            have c0 := c0wp
            have c1 := c1wp
            have kc := kcwp
            have HO5 := HO5wp
            have HM5 := HM5wp
            clear c0wp c1wp kcwp HO5wp HM5wp
            go_wp2_with fail
            go_roundw
            case rel => exact ⟨j + 1, true, P ++ [(k, v)], by omega, by simp, rfl, by rw [List.length_append, HPM.out, eRow_app]; exact HO5.out, by simp [HPM.out]; omega, HM5.out, by rw [HT.out, foldOn_snoc, HF.out]; simp [stOn, HX.out, blt_irrefl]⟩
            case measure => simp [intOf]; omega
          · have hk2 : (x1.toList == k.toList) = false := by rw [beq_eq_false_iff_ne]; exact fun e => hk (toList_inj e)
            have HX := Lib.hid hk
            have hlt2 := Lib.hid (show blt x1 k = false from hlt)
            clear hk
            go_wp2_with fail
            go_quiet (fail)
            obtain ⟨wq, hwwq⟩ : ∃ wq, wr.drewN nq = wq := ⟨_, rfl⟩
            have c0wq : wq.cell? ⟨bb, ob + j * 2, none⟩ = some (.string x1) := by rw [← hwwq]; exact c0
            have c1wq : wq.cell? ⟨bb, ob + j * 2 + 1, none⟩ = some (.string x2) := by rw [← hwwq]; exact c1
            have kcwq : wq.cell? ⟨W.heap.size, 1, none⟩ = some (.string k) := by rw [← hwwq]; exact kc
            have HOwq := Lib.hid (owns_keepM HO.out ((Mods.refl [] wr).drewN nq) (by simp))
            have HMwq := Lib.hid (HM.out.drewN nq)
            have hszwq : wr.heap.size ≤ (wr.drewN nq).heap.size := Nat.le_refl _
            rw [hwwq] at HOwq HMwq hszwq ⊢
            clear hwwq c0 c1 kc HO HM nq
            have c0 := c0wq
            have c1 := c1wq
            have kc := kcwq
            have HO := HOwq
            have HM := HMwq
            clear c0wq c1wq kcwq HOwq HMwq
            go_wp2_with (at_builtin; refine wpList_append_own _ rfl (.tmp 52) (.tmp 57) 79 rfl w3.heap.size 88 i0 (.agg #[.string ⟨#[]⟩, .string ⟨#[]⟩]) 2 32 Try.underlying79 hi0 hz0 hz1 hz2 rfl (by decide) _ _ _ rfl (HO.out.alloc _) ⟨wq.heap.size, 0, none⟩ 1 1 (ecells (k, v)) rfl rfl (fun j u hj => by rw [addr_add0]; exact (Blk.new wq 88 (ecells (k, v))).cell hj) (by simp [ecells, Value.oneCell']) (by unfold maxLen; omega) (by omega) (by simp; omega) ?_; intro v5 w5 hown5 hg5 _)
            have hm5 : Mods [] w3 w5 := (HM.out.alloc _).grown hg5 (fun q hq => .inr (HO.out.lt q hq).1)
            have HO5 := Lib.hid hown5
            have HM5 := Lib.hid hm5
            clear c0 c1 kc
            have hsz5 := hm5.size
            clear hown5 hg5
            have c0 : w5.cell? ⟨bb, ob + j * 2, none⟩ = some (.string x1) ∧ w5.cell? ⟨bb, ob + j * 2 + 1, none⟩ = some (.string x2) := by
              obtain ⟨b1, o1, e, d0, d1⟩ := eRow_at ((HR.out.keep HM3.out (fun _ _ => by simp)).keep hm5 (fun _ _ => by simp)) HX0.out
              injection e with e; injection e with e1 e2
              subst e1 e2
              exact ⟨d0, d1⟩
            obtain ⟨c0, c1⟩ := c0
            have kc := (HB4.out.keep hm5 (by simp)).cell (i := 1) rfl
            clear HO HM hm5
            go_wp2_with fail
            go_quiet (fail)
            obtain ⟨wp, hwwp⟩ : ∃ wp, w5.drewN nq = wp := ⟨_, rfl⟩
            have c0wp : wp.cell? ⟨bb, ob + j * 2, none⟩ = some (.string x1) := by rw [← hwwp]; exact c0
            have c1wp : wp.cell? ⟨bb, ob + j * 2 + 1, none⟩ = some (.string x2) := by rw [← hwwp]; exact c1
            have kcwp : wp.cell? ⟨W.heap.size, 1, none⟩ = some (.string k) := by rw [← hwwp]; exact kc
            have HO5wp := Lib.hid (owns_keepM HO5.out ((Mods.refl [] w5).drewN nq) (by simp))
            have HM5wp := Lib.hid (HM5.out.drewN nq)
            have hszwp : w5.heap.size ≤ (w5.drewN nq).heap.size := Nat.le_refl _
            rw [hwwp] at HO5wp HM5wp hszwp ⊢
            clear hwwp c0 c1 kc HO5 HM5 nq
            have c0 := c0wp
            have c1 := c1wp
            have kc := kcwp
            have HO5 := HO5wp
            have HM5 := HM5wp
            clear c0wp c1wp kcwp HO5wp HM5wp
            go_wp2_with (at_builtin; refine wpList_append_own _ rfl (.tmp 67) (.tmp 72) 79 rfl w3.heap.size 88 i0 (.agg #[.string ⟨#[]⟩, .string ⟨#[]⟩]) 2 32 Try.underlying79 hi0 hz0 hz1 hz2 rfl (by decide) _ _ _ rfl (HO5.out.alloc _) ⟨wp.heap.size, 0, none⟩ 1 1 (ecells (x1, x2)) rfl rfl (fun j u hj => by rw [addr_add0]; exact (Blk.new wp 88 (ecells (x1, x2))).cell hj) (by simp [ecells, Value.oneCell']) (by unfold maxLen; omega) (by omega) (by simp; omega) ?_; intro v8 w8 hown8 hg8 _)
            have hm8 : Mods [] w3 w8 := (HM5.out.alloc _).grown hg8 (fun q hq => .inr (HO5.out.lt q hq).1)
            have HO8 := Lib.hid hown8
            have HM8 := Lib.hid hm8
            have hsz8 := hm8.size
            clear hown8 hg8
            go_wp2_with fail
            go_roundw
            case rel => exact ⟨j + 1, true, P ++ [(k, v)] ++ [(x1, x2)], by omega, by simp, rfl, by rw [List.length_append, List.length_append, HPM.out, eRow_app, eRow_app]; exact HO8.out, by simp [HPM.out]; omega, HM8.out, by rw [HT.out, foldOn_snoc, HF.out]; simp [stOn, HX.out, hlt2.out]⟩
            case measure => simp [intOf]; omega
        · have hk : x1 ≠ k := blt_ne hlt
          have hk2 : (x1.toList == k.toList) = false := by rw [beq_eq_false_iff_ne]; exact fun e => hk (toList_inj e)
          have HX := Lib.hid hk
          have hlt2 := Lib.hid (show blt x1 k = true from hlt)
          clear hk HX0
          go_wp2_with fail
          go_quiet (fail)
          obtain ⟨wq, hwwq⟩ : ∃ wq, wr.drewN nq = wq := ⟨_, rfl⟩
          have c0wq : wq.cell? ⟨bb, ob + j * 2, none⟩ = some (.string x1) := by rw [← hwwq]; exact c0
          have c1wq : wq.cell? ⟨bb, ob + j * 2 + 1, none⟩ = some (.string x2) := by rw [← hwwq]; exact c1
          have kcwq : wq.cell? ⟨W.heap.size, 1, none⟩ = some (.string k) := by rw [← hwwq]; exact kc
          have HOwq := Lib.hid (owns_keepM HO.out ((Mods.refl [] wr).drewN nq) (by simp))
          have HMwq := Lib.hid (HM.out.drewN nq)
          have hszwq : wr.heap.size ≤ (wr.drewN nq).heap.size := Nat.le_refl _
          rw [hwwq] at HOwq HMwq hszwq ⊢
          clear hwwq c0 c1 kc HO HM nq
          have c0 := c0wq
          have c1 := c1wq
          have kc := kcwq
          have HO := HOwq
          have HM := HMwq
          clear c0wq c1wq kcwq HOwq HMwq
          go_wp2_with fail
          go_quiet (fail)
          obtain ⟨wp, hwwp⟩ : ∃ wp, wq.drewN nq = wp := ⟨_, rfl⟩
          have c0wp : wp.cell? ⟨bb, ob + j * 2, none⟩ = some (.string x1) := by rw [← hwwp]; exact c0
          have c1wp : wp.cell? ⟨bb, ob + j * 2 + 1, none⟩ = some (.string x2) := by rw [← hwwp]; exact c1
          have kcwp : wp.cell? ⟨W.heap.size, 1, none⟩ = some (.string k) := by rw [← hwwp]; exact kc
          have HOwp := Lib.hid (owns_keepM HO.out ((Mods.refl [] wq).drewN nq) (by simp))
          have HMwp := Lib.hid (HM.out.drewN nq)
          have hszwp : wq.heap.size ≤ (wq.drewN nq).heap.size := Nat.le_refl _
          rw [hwwp] at HOwp HMwp hszwp ⊢
          clear hwwp c0 c1 kc HO HM nq
          have c0 := c0wp
          have c1 := c1wp
          have kc := kcwp
          have HO := HOwp
          have HM := HMwp
          clear c0wp c1wp kcwp HOwp HMwp
          go_wp2_with (at_builtin; refine wpList_append_own _ rfl (.tmp 67) (.tmp 72) 79 rfl w3.heap.size 88 i0 (.agg #[.string ⟨#[]⟩, .string ⟨#[]⟩]) 2 32 Try.underlying79 hi0 hz0 hz1 hz2 rfl (by decide) _ _ _ rfl (HO.out.alloc _) ⟨wp.heap.size, 0, none⟩ 1 1 (ecells (x1, x2)) rfl rfl (fun j u hj => by rw [addr_add0]; exact (Blk.new wp 88 (ecells (x1, x2))).cell hj) (by simp [ecells, Value.oneCell']) (by unfold maxLen; omega) (by omega) (by simp; omega) ?_; intro v8 w8 hown8 hg8 _)
          have hm8 : Mods [] w3 w8 := (HM.out.alloc _).grown hg8 (fun q hq => .inr (HO.out.lt q hq).1)
          have HO8 := Lib.hid hown8
          have HM8 := Lib.hid hm8
          have hsz8 := hm8.size
          clear hown8 hg8
          go_wp2_with fail
          go_roundw
          case rel => exact ⟨j + 1, false, P ++ [(x1, x2)], by omega, by simp, rfl, by rw [List.length_append, HPM.out, eRow_app]; exact HO8.out, by simp [HPM.out]; omega, HM8.out, by rw [HT.out, foldOn_snoc, HF.out]; simp [stOn, HX.out, hlt2.out]⟩
          case measure => simp [intOf]; omega
      · by_cases hk : x1 = k
        · have hk2 : (x1.toList == k.toList) = true := by rw [hk]; simp
          have HX := Lib.hid hk
          clear hk HX0
          go_wp2_with fail
          go_quiet (fail)
          obtain ⟨wq, hwwq⟩ : ∃ wq, wr.drewN nq = wq := ⟨_, rfl⟩
          have c0wq : wq.cell? ⟨bb, ob + j * 2, none⟩ = some (.string x1) := by rw [← hwwq]; exact c0
          have c1wq : wq.cell? ⟨bb, ob + j * 2 + 1, none⟩ = some (.string x2) := by rw [← hwwq]; exact c1
          have kcwq : wq.cell? ⟨W.heap.size, 1, none⟩ = some (.string k) := by rw [← hwwq]; exact kc
          have HOwq := Lib.hid (owns_keepM HO.out ((Mods.refl [] wr).drewN nq) (by simp))
          have HMwq := Lib.hid (HM.out.drewN nq)
          have hszwq : wr.heap.size ≤ (wr.drewN nq).heap.size := Nat.le_refl _
          rw [hwwq] at HOwq HMwq hszwq ⊢
          clear hwwq c0 c1 kc HO HM nq
          have c0 := c0wq
          have c1 := c1wq
          have kc := kcwq
          have HO := HOwq
          have HM := HMwq
          clear c0wq c1wq kcwq HOwq HMwq
          go_wp2_with fail
          go_quiet (fail)
          obtain ⟨wp, hwwp⟩ : ∃ wp, wq.drewN nq = wp := ⟨_, rfl⟩
          have c0wp : wp.cell? ⟨bb, ob + j * 2, none⟩ = some (.string x1) := by rw [← hwwp]; exact c0
          have c1wp : wp.cell? ⟨bb, ob + j * 2 + 1, none⟩ = some (.string x2) := by rw [← hwwp]; exact c1
          have kcwp : wp.cell? ⟨W.heap.size, 1, none⟩ = some (.string k) := by rw [← hwwp]; exact kc
          have HOwp := Lib.hid (owns_keepM HO.out ((Mods.refl [] wq).drewN nq) (by simp))
          have HMwp := Lib.hid (HM.out.drewN nq)
          have hszwp : wq.heap.size ≤ (wq.drewN nq).heap.size := Nat.le_refl _
          rw [hwwp] at HOwp HMwp hszwp ⊢
          clear hwwp c0 c1 kc HO HM nq
          have c0 := c0wp
          have c1 := c1wp
          have kc := kcwp
          have HO := HOwp
          have HM := HMwp
          clear c0wp c1wp kcwp HOwp HMwp
          go_wp2_with fail
          go_roundw
          case rel => exact ⟨j + 1, true, P, by omega, by simp, rfl, by rw [HPM.out]; exact HO.out, by simp [HPM.out]; omega, HM.out, by rw [HT.out, foldOn_snoc, HF.out]; simp [stOn, HX.out]⟩
          case measure => simp [intOf]; omega
        · have hk2 : (x1.toList == k.toList) = false := by rw [beq_eq_false_iff_ne]; exact fun e => hk (toList_inj e)
          have HX := Lib.hid hk
          clear hk HX0
          go_wp2_with fail
          go_quiet (fail)
          obtain ⟨wq, hwwq⟩ : ∃ wq, wr.drewN nq = wq := ⟨_, rfl⟩
          have c0wq : wq.cell? ⟨bb, ob + j * 2, none⟩ = some (.string x1) := by rw [← hwwq]; exact c0
          have c1wq : wq.cell? ⟨bb, ob + j * 2 + 1, none⟩ = some (.string x2) := by rw [← hwwq]; exact c1
          have kcwq : wq.cell? ⟨W.heap.size, 1, none⟩ = some (.string k) := by rw [← hwwq]; exact kc
          have HOwq := Lib.hid (owns_keepM HO.out ((Mods.refl [] wr).drewN nq) (by simp))
          have HMwq := Lib.hid (HM.out.drewN nq)
          have hszwq : wr.heap.size ≤ (wr.drewN nq).heap.size := Nat.le_refl _
          rw [hwwq] at HOwq HMwq hszwq ⊢
          clear hwwq c0 c1 kc HO HM nq
          have c0 := c0wq
          have c1 := c1wq
          have kc := kcwq
          have HO := HOwq
          have HM := HMwq
          clear c0wq c1wq kcwq HOwq HMwq
          go_wp2_with fail
          go_quiet (fail)
          obtain ⟨wp, hwwp⟩ : ∃ wp, wq.drewN nq = wp := ⟨_, rfl⟩
          have c0wp : wp.cell? ⟨bb, ob + j * 2, none⟩ = some (.string x1) := by rw [← hwwp]; exact c0
          have c1wp : wp.cell? ⟨bb, ob + j * 2 + 1, none⟩ = some (.string x2) := by rw [← hwwp]; exact c1
          have kcwp : wp.cell? ⟨W.heap.size, 1, none⟩ = some (.string k) := by rw [← hwwp]; exact kc
          have HOwp := Lib.hid (owns_keepM HO.out ((Mods.refl [] wq).drewN nq) (by simp))
          have HMwp := Lib.hid (HM.out.drewN nq)
          have hszwp : wq.heap.size ≤ (wq.drewN nq).heap.size := Nat.le_refl _
          rw [hwwp] at HOwp HMwp hszwp ⊢
          clear hwwp c0 c1 kc HO HM nq
          have c0 := c0wp
          have c1 := c1wp
          have kc := kcwp
          have HO := HOwp
          have HM := HMwp
          clear c0wp c1wp kcwp HOwp HMwp
          go_wp2_with (at_builtin; refine wpList_append_own _ rfl (.tmp 67) (.tmp 72) 79 rfl w3.heap.size 88 i0 (.agg #[.string ⟨#[]⟩, .string ⟨#[]⟩]) 2 32 Try.underlying79 hi0 hz0 hz1 hz2 rfl (by decide) _ _ _ rfl (HO.out.alloc _) ⟨wp.heap.size, 0, none⟩ 1 1 (ecells (x1, x2)) rfl rfl (fun j u hj => by rw [addr_add0]; exact (Blk.new wp 88 (ecells (x1, x2))).cell hj) (by simp [ecells, Value.oneCell']) (by unfold maxLen; omega) (by omega) (by simp; omega) ?_; intro v8 w8 hown8 hg8 _)
          have hm8 : Mods [] w3 w8 := (HM.out.alloc _).grown hg8 (fun q hq => .inr (HO.out.lt q hq).1)
          have HO8 := Lib.hid hown8
          have HM8 := Lib.hid hm8
          have hsz8 := hm8.size
          clear hown8 hg8
          go_wp2_with fail
          go_roundw
          case rel => exact ⟨j + 1, true, P ++ [(x1, x2)], by omega, by simp, rfl, by rw [List.length_append, HPM.out, eRow_app]; exact HO8.out, by simp [HPM.out]; omega, HM8.out, by rw [HT.out, foldOn_snoc, HF.out]; simp [stOn, HX.out]⟩
          case measure => simp [intOf]; omega
    · obtain rfl : j = n := by omega
      have hfin := Lib.hid (show finOn k v (dn, P) = doE E u by rw [← HE3.out, ← HF.out, List.take_of_length_le (Nat.le_of_eq HN.out)])
      clear HF hm
      cases dn
      · go_wp2_with (at_builtin; refine wpList_append_own _ rfl (.tmp 76) (.tmp 81) 79 rfl w3.heap.size 88 i0 (.agg #[.string ⟨#[]⟩, .string ⟨#[]⟩]) 2 32 Try.underlying79 hi0 hz0 hz1 hz2 rfl (by decide) _ _ _ rfl (HO.out.alloc _) ⟨wr.heap.size, 0, none⟩ 1 1 (ecells (k, v)) rfl rfl (fun j u hj => by rw [addr_add0]; exact (Blk.new wr 88 (ecells (k, v))).cell hj) (by simp [ecells, Value.oneCell']) (by unfold maxLen; omega) (by omega) (by simp; omega) ?_; intro v8 w8 hown8 hg8 _)
        have hm4 : Mods [] w3 w8 := (HM.out.alloc _).grown hg8 (fun q hq => .inr (HO.out.lt q hq).1)
        obtain ⟨B, d, rfl, _, _, _⟩ := owns2 hown8
        have HW : Hid (w8.ownsRow W.heap.size 88 2 (.slice B (m + 1) d) (m + 1) (eRow (doE E u)) ∧ (doE E u).length = m + 1) := by
          rw [← hfin.out]
          refine ⟨?_, by simp [finOn, HPM.out]⟩
          simp only [finOn, Bool.false_eq_true, if_false]
          rw [eRow_app]
          exact owns2_base hown8 hsz
        clear hown8 hg8
        go_wp2_with fail
        go_ret
        exact ⟨B, d, m + 1, rfl, HW.out.2, HW.out.1, HM3.out.trans hm4 (by simp)⟩
      · obtain ⟨B, d, rfl, _, _, _⟩ := owns2 HO.out
        have HW : Hid (wr.ownsRow W.heap.size 88 2 (.slice B m d) m (eRow (doE E u)) ∧ (doE E u).length = m) := by
          rw [← hfin.out]
          exact ⟨by simpa [finOn] using owns2_base HO.out hsz, by simp [finOn, HPM.out]⟩
        go_wp2_with fail
        go_ret
        exact ⟨B, d, m, rfl, HW.out.2, HW.out.1, HM3.out.trans HM.out (by simp)⟩
end Go.Proofs.Ytahaecieklfhkaa
