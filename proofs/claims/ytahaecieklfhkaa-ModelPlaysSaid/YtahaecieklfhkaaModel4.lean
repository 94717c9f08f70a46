/- The model's own functions. -/
import Derived.Test.YtahaecieklfhkaaModel3
import Derived.Test.YtahaecieklfhkaaMKeys
import Derived.LoopIn
namespace Go.Proofs.Ytahaecieklfhkaa
open Go.RowKit

/-- Block b is a model with the entries E; its map is block mb. -/
structure IsM (w : World) (b mb : Nat) (E : Ents) : Prop where
  blk : Blk w b 94 [.map (some mb)]
  map : MapK kvS w mb (entF E) E.length
  up : Rising E
  key : ∀ e ∈ E, e.1.size ≤ 16 ∧ e.2.size ≤ 32
  ne : b ≠ mb
theorem IsM.keep {w w1 : World} {b mb : Nat} {E : Ents} (h : IsM w b mb E) {L : List Nat} (hm : Mods L w w1) (h1 : b ∉ L) (h2 : mb ∉ L) : IsM w1 b mb E :=
  ⟨h.blk.keep hm h1, h.map.keep hm h2, h.up, h.key, h.ne⟩
theorem IsM.lt {w : World} {b mb : Nat} {E : Ents} (h : IsM w b mb E) : b < w.heap.size ∧ mb < w.heap.size := ⟨h.blk.lt, h.map.lt⟩
theorem checkU_0 {u : Upd} (h : checkU u = 0) : u.key.size ≤ 16 ∧ u.val.size ≤ 32 ∧ 1 ≤ u.kind ∧ u.kind ≤ 3 := by
  unfold checkU at h
  split at h
  · cases h
  · rename_i h1
    split at h
    · cases h
    · rename_i h2
      omega
theorem doE_small {E : Ents} (hE : ∀ e ∈ E, e.1.size ≤ 16 ∧ e.2.size ≤ 32) {u : Upd} (hu : checkU u = 0) : ∀ e ∈ doE E u, e.1.size ≤ 16 ∧ e.2.size ≤ 32 := by
  intro e he
  have hc := checkU_0 hu
  unfold doE at he
  split at he
  · rename_i v hv
    rcases ins_mem.1 he with rfl | ⟨he, _⟩
    · refine ⟨hc.1, ?_⟩
      unfold onV at hv
      split at hv
      · obtain rfl := Option.some.inj hv; exact hc.2.1
      · split at hv
        · cases hv
        · obtain rfl := Option.some.inj hv
          rw [num8_size]; decide
    · exact hE e he
  · exact hE e (del_mem.1 he).1

theorem run_makeMapM (W : World) : (Instr.makeMap 92 none).run Try.prog W = .ok (.map (some W.heap.size)) (W.alloc (.map #[] 0)) := by kernel_rfl
set_option maxRecDepth 100000 in
theorem mNew_any (W : World) : Calls Try.prog 10 #[] W fun e w' => ∃ b mb, e = .returned (.pointer (some ⟨b, 0, none⟩)) ∧ IsM w' b mb [] ∧ Mods [] W w' ∧ W.heap.size ≤ b ∧ W.heap.size ≤ mb := by
  have hmm := run_makeMapM W
  obtain ⟨w1, hw1⟩ : ∃ w1, W.alloc (.map #[] 0) = w1 := ⟨_, rfl⟩
  have hm1 : Mods [] W w1 := by rw [← hw1]; exact (Mods.refl _ _).alloc _
  have hk1 : MapK kvS w1 W.heap.size (fun _ => none) 0 := by rw [← hw1]; exact MapK.made W
  have hs1 : w1.heap.size = W.heap.size + 1 := by rw [← hw1]; simp
  rw [hw1] at hmm
  obtain ⟨w2, hw2⟩ : ∃ w2, w1.alloc (.cells #[.map (some W.heap.size)] 94) = w2 := ⟨_, rfl⟩
  have hm2 : Mods [] w1 w2 := by rw [← hw2]; exact (Mods.refl _ _).alloc _
  have hB2 : Blk w2 w1.heap.size 94 [.map (some W.heap.size)] := by rw [← hw2]; exact Blk.new w1 94 _
  go_enter Try.func10, Try.ntmps10
  go_wp2_with fail
  go_ret
  refine ⟨_, _, rfl, ⟨by rw [← hs1]; exact hB2, ?_, List.Pairwise.nil, (fun _ h => by cases h), by omega⟩, hm1.trans hm2 (by simp), by omega, Nat.le_refl _⟩
  exact hk1.keep hm2 (by simp)
set_option maxRecDepth 100000 in
theorem mLen_any {W : World} {b mb : Nat} {E : Ents} (h : IsM W b mb E) : Calls Try.prog 16 #[.pointer (some ⟨b, 0, none⟩)] W fun e w' => e = .returned (.int .i64 (E.length : Nat)) ∧ Mods [] W w' := by
  have c0 := h.blk.cell (i := 0) rfl
  have hl := h.map.len (P := Try.prog) (T := 92) Try.underlying92 3
  go_enter Try.func16, Try.ntmps16
  go_wp2_with fail
  go_ret
  exact ⟨rfl, Mods.refl _ _⟩
theorem entF_val (E : Ents) (k : ByteArray) : (entF E k).getD (.string ⟨#[]⟩) = .string ((getE E k).getD ⟨#[]⟩) := by unfold entF; cases getE E k <;> rfl
theorem zeroStr (W : World) : (zeroValue 9).run Try.prog W = .ok (.string ⟨#[]⟩) W := by kernel_rfl
theorem IsM.look {W : World} {b mb : Nat} {E : Ents} (h : IsM W b mb E) (k : ByteArray) : (Instr.lookup 92 (.map (some mb)) (.string k) true).run Try.prog W = .ok (.tuple #[.string ((getE E k).getD ⟨#[]⟩), .bool (getE E k).isSome]) W := by
  have := h.map.lookup (P := Try.prog) (T := 92) (K := 9) (E := 9) (d := .string) kvS_key Try.underlying92 Try.underlying9 (zeroStr W) k true
  rw [if_pos rfl, entF_val, entF_some] at this
  exact this
theorem IsM.look1 {W : World} {b mb : Nat} {E : Ents} (h : IsM W b mb E) (k : ByteArray) : (Instr.lookup 92 (.map (some mb)) (.string k) false).run Try.prog W = .ok (.string ((getE E k).getD ⟨#[]⟩)) W := by
  have := h.map.lookup (P := Try.prog) (T := 92) (K := 9) (E := 9) (d := .string) kvS_key Try.underlying92 Try.underlying9 (zeroStr W) k false
  rw [if_neg (by decide), entF_val] at this
  exact this
theorem IsM.drewN {W : World} {b mb : Nat} {E : Ents} (h : IsM W b mb E) (q : Nat) : IsM (W.drewN q) b mb E := ⟨h.blk, h.map.drewN q, h.up, h.key, h.ne⟩
theorem IsM.old {W : World} {b mb : Nat} {E : Ents} (h : IsM W b mb E) (k : ByteArray) : ((getE E k).getD ⟨#[]⟩).size ≤ 32 := by
  cases hg : getE E k with
  | none => decide
  | some v => exact (h.key _ ((getE_iff h.up).1 hg)).2
set_option maxRecDepth 100000 in
theorem mGet_any {W : World} {b mb : Nat} {E : Ents} (h : IsM W b mb E) (k : ByteArray) : Calls Try.prog 34 #[.pointer (some ⟨b, 0, none⟩), .string k] W fun e w' => e = .returned (.tuple #[.string ((getE E k).getD ⟨#[]⟩), .bool (getE E k).isSome]) ∧ Mods [] W w' := by
  have c0 := h.blk.cell (i := 0) rfl
  have hlk := h.look k
  go_enter Try.func34, Try.ntmps34
  go_wp2_with fail
  go_ret2
  exact ⟨rfl, Mods.refl _ _⟩
/-- What is done to the map, by an update that may be. -/
theorem IsM.put {W W1 : World} {b mb : Nat} {E : Ents} (h : IsM W b mb E) {u : Upd} {v : ByteArray} (hu : checkU u = 0) (hv : onV (getE E u.key) u = some v) (hM : MapK kvS W1 mb (putF (entF E) u.key (.string v)) (if (entF E u.key).isSome then E.length else E.length + 1)) (hm : Mods [mb] W W1) : IsM W1 b mb (doE E u) := by
  have hd : doE E u = insE E u.key v := by unfold doE; rw [hv]
  refine ⟨h.blk.keep hm (by simpa using h.ne), ?_, doE_rising h.up u, doE_small h.key hu, h.ne⟩
  rw [hd]
  rw [entF_ins h.up, entF_some, ← ins_length h.up u.key v] at hM
  exact hM
theorem IsM.del {W W1 : World} {b mb : Nat} {E : Ents} (h : IsM W b mb E) {u : Upd} (hu : checkU u = 0) (hv : onV (getE E u.key) u = none) (hM : MapK kvS W1 mb (delF (entF E) u.key) (if (entF E u.key).isSome then E.length - 1 else E.length)) (hm : Mods [mb] W W1) : IsM W1 b mb (doE E u) := by
  have hd : doE E u = delE E u.key := by unfold doE; rw [hv]
  refine ⟨h.blk.keep hm (by simpa using h.ne), ?_, doE_rising h.up u, doE_small h.key hu, h.ne⟩
  rw [hd]
  rw [entF_del h.up, entF_some, ← del_length h.up u.key] at hM
  exact hM
set_option maxRecDepth 100000 in
set_option maxHeartbeats 3200000 in
theorem mUpdate_any {W : World} {b mb : Nat} {E : Ents} (h : IsM W b mb E) (u : Upd) :
    Calls Try.prog 12 #[.pointer (some ⟨b, 0, none⟩), updV u] W fun e w' => e = .returned (.int .i64 (errU E u : Nat)) ∧ IsM w' b mb (stepE E u) ∧ Mods [mb] W w' := by
  obtain ⟨k, key, val, d⟩ := u
  obtain ⟨w1, hw1⟩ : ∃ w1, W.alloc (.cells #[.int .u8 k, .string key, .string val, .int .u64 d] 30) = w1 := ⟨_, rfl⟩
  have hm1 : Mods [] W w1 := by rw [← hw1]; exact (Mods.refl _ _).alloc _
  have hB1 : Blk w1 W.heap.size 30 [.int .u8 k, .string key, .string val, .int .u64 d] := by rw [← hw1]; exact Blk.new W 30 _
  have a0 := hB1.cell (i := 0) rfl
  have a1 := hB1.cell (i := 1) rfl
  have a2 := hB1.cell (i := 2) rfl
  have a3 := hB1.cell (i := 3) rfl
  have hlt := h.lt
  have HI1 := Lib.hid (h.keep hm1 (by simp) (by simp))
  have hcu := Lib.hid (uCheck_any (W := w1) ⟨k, key, val, d⟩)
  unfold updV
  go_enter Try.func12, Try.ntmps12
  go_wp2_with fail
  refine hcu.out.mono ?_
  rintro x w2 ⟨rfl, hm2⟩
  have hB2 := hB1.keep hm2 (by simp)
  have HI2 := Lib.hid (HI1.out.keep hm2 (by simp) (by simp))
  have HM2 := Lib.hid (hm1.trans hm2 (by simp))
  clear a0 a1 a2 a3 hm2 hcu hB1 HI1 hw1
  by_cases hc : checkU ⟨k, key, val, d⟩ = 0
  · rw [hc]
    have b0 := hB2.cell (i := 0) rfl
    have b1 := hB2.cell (i := 1) rfl
    have b2 := hB2.cell (i := 2) rfl
    have b3 := hB2.cell (i := 3) rfl
    have c0 := HI2.out.blk.cell (i := 0) rfl
    have hlk := fun q => (HI2.out.drewN q).look key
    have hns := fun q => Lib.hid (msgNumber_any (W := w2.drewN q) ((getE E key).getD ⟨#[]⟩) (Nat.le_trans (HI2.out.old key) (by decide)))
    have HC := Lib.hid hc
    obtain ⟨o, ho⟩ : ∃ o, getE E key = o := ⟨_, rfl⟩
    rw [ho] at hlk hns
    have HO := Lib.hid ho
    clear ho hc
    go_wp2
    go_quiet (fail)
    generalize nq = q1 at *
    go_wp2_with fail
    refine (hns q1).out.mono ?_
    rintro x w3 ⟨rfl, hm3⟩
    have hB3 := hB2.keep ((Mods.refl [] w2).drewN q1 |>.trans hm3 (by simp)) (by simp)
    have HI3 := Lib.hid (HI2.out.keep ((Mods.refl [] w2).drewN q1 |>.trans hm3 (by simp)) (by simp) (by simp))
    have HM3 := Lib.hid ((HM2.out.drewN q1).trans hm3 (by simp))
    clear b0 b1 b2 b3 c0 hlk hns hm3
    have b0 := hB3.cell (i := 0) rfl
    have b1 := hB3.cell (i := 1) rfl
    have b2 := hB3.cell (i := 2) rfl
    have b3 := hB3.cell (i := 3) rfl
    by_cases hmay : mayU o ⟨k, key, val, d⟩
    · have hcase : (k = 3 ∧ o = none) ∨ (k = 3 ∧ ∃ v n, o = some v ∧ numOf v = some n) ∨ k ≠ 3 := by
        by_cases hk3 : k = 3
        · cases o with
          | none => exact .inl ⟨hk3, rfl⟩
          | some v => exact .inr (.inl ⟨hk3, v, leNum v.toList, rfl, by unfold numOf; rw [if_pos (hmay hk3 v rfl)]⟩)
        · exact .inr (.inr hk3)
      have herr : errU E ⟨k, key, val, d⟩ = 0 := by unfold errU; rw [if_neg (by rw [HC.out]; simp), HO.out, if_pos hmay]
      have hst : stepE E ⟨k, key, val, d⟩ = doE E ⟨k, key, val, d⟩ := by unfold stepE; rw [if_neg (by rw [herr]; simp)]
      have HE := Lib.hid (And.intro herr hst)
      have hon := msgOn_any (W := w3) o ⟨k, key, val, d⟩ hmay (checkU_0 HC.out).2.2.1 (checkU_0 HC.out).2.2.2
      simp only [updV] at hon
      obtain ⟨u, hu⟩ : ∃ u : Upd, Upd.mk k key val d = u := ⟨_, rfl⟩
      have huk : u.key = key := by rw [← hu]
      rw [hu] at hon HC HE
      have HU := Lib.hid (And.intro hu huk)
      have HON := Lib.hid hon
      clear herr hst hmay hon hu huk
      rcases hcase with ⟨rfl, rfl⟩ | ⟨rfl, v, n, rfl, hn⟩ | hk3
      all_goals
        go_wp2_with fail
        refine HON.out.mono ?_
        rintro x w4 ⟨rfl, hm4⟩
        have hB4 := hB3.keep hm4 (by simp)
        have HI4 := Lib.hid (HI3.out.keep hm4 (by simp) (by simp))
        have HM4 := Lib.hid (HM3.out.trans hm4 (by simp))
        clear b0 b1 b2 b3 hm4 HON
        have b1 := hB4.cell (i := 1) rfl
        have c0 := HI4.out.blk.cell (i := 0) rfl
        obtain ⟨r, hr⟩ : ∃ r, onV (getE E u.key) u = r := ⟨_, rfl⟩
        have hr2 := hr
        rw [HU.out.2, HO.out] at hr2
        rw [hr2]
        have HV := Lib.hid hr
        clear hr hr2
        cases r with
        | none =>
          obtain ⟨w5, hup, hM5, hm5, _⟩ := ((show IsM w4.drew b mb E from HI4.out.drewN 1).map).delete (P := Try.prog) (T := 92) (K := 9) (ty := 0) (d := .string) kvS_key kvS_inj Try.underlying92 Try.underlying9 key
          have HN := Lib.hid ((HI4.out.drewN 1).del HC.out HV.out (by rw [HU.out.2]; exact hM5) hm5)
          have HM5 : Hid (Mods [mb] W w5) := ((HM4.out.drewN 1).mono (fun _ h => by cases h)).trans hm5 (fun k hk => .inl hk)
          simp only [kvS] at hup
          clear hM5 hm5
          go_wp2_with fail
          go_region
          go_wp2_with fail
          go_ret
          rw [HU.out.1, HE.out.1, HE.out.2]
          exact ⟨rfl, HN.out, HM5.out⟩
        | some v1 =>
          obtain ⟨w5, hup, hM5, hm5, _⟩ := ((show IsM w4.drew b mb E from HI4.out.drewN 1).map).update (P := Try.prog) (T := 92) (K := 9) (E := 9) (d := .string) kvS_key kvS_inj Try.underlying92 Try.underlying9 key (.string v1)
          have HN := Lib.hid ((HI4.out.drewN 1).put HC.out HV.out (by rw [HU.out.2]; exact hM5) hm5)
          have HM5 : Hid (Mods [mb] W w5) := ((HM4.out.drewN 1).mono (fun _ h => by cases h)).trans hm5 (fun k hk => .inl hk)
          simp only [kvS] at hup
          clear hM5 hm5
          go_wp2_with fail
          go_region
          go_wp2_with fail
          go_ret
          rw [HU.out.1, HE.out.1, HE.out.2]
          exact ⟨rfl, HN.out, HM5.out⟩
    · have hk3 : k = 3 := by
        rcases Nat.decEq k 3 with h3 | h3
        · exact absurd (fun e => absurd e h3) hmay
        · exact h3
      subst hk3
      obtain ⟨v, rfl, h8⟩ : ∃ v, o = some v ∧ v.size ≠ 8 := by
        cases o with
        | none => exact absurd (fun _ v e => by cases e) hmay
        | some v => exact ⟨v, rfl, fun e => hmay (fun _ v1 e1 => by cases e1; exact e)⟩
      have hn : numOf v = none := by unfold numOf; rw [if_neg h8]
      have herr : errU E ⟨3, key, val, d⟩ = 14 := by unfold errU; rw [if_neg (by rw [HC.out]; simp), HO.out, if_neg hmay]
      have hst : stepE E ⟨3, key, val, d⟩ = E := by unfold stepE; rw [if_pos (by rw [herr]; simp)]
      have HE := Lib.hid (And.intro herr hst)
      clear herr hst hmay
      go_wp2_with fail
      go_ret
      rw [HE.out.1, HE.out.2]
      exact ⟨rfl, HI3.out, HM3.out.mono (by simp)⟩
  · obtain ⟨c, hcc⟩ : ∃ c, checkU ⟨k, key, val, d⟩ = c := ⟨_, rfl⟩
    have herr : errU E ⟨k, key, val, d⟩ = c := by unfold errU; rw [if_pos hc]; exact hcc
    have hst : stepE E ⟨k, key, val, d⟩ = E := by unfold stepE; rw [if_pos (by rw [herr, ← hcc]; exact hc)]
    have HE := Lib.hid (And.intro herr hst)
    rw [hcc] at hc ⊢
    have hci : ¬ (c : Int) = 0 := by omega
    clear herr hst hcc
    go_wp2_with fail
    go_ret
    rw [HE.out.1, HE.out.2]
    exact ⟨rfl, HI2.out, HM2.out.mono (by simp)⟩
end Go.Proofs.Ytahaecieklfhkaa
