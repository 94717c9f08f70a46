/- ModelPlays: whatever updates there are, the answers and the entries are the document's; a copy has nothing to do with what it is of: for every list of updates, bounds and counts. -/
import Derived.Test.YtahaecieklfhkaaMPlays0
import Derived.Test.YtahaecieklfhkaaMPlays2
import Derived.Test.YtahaecieklfhkaaPlayArg
import Derived.Test.YtahaecieklfhkaaOwn
namespace Go.Proofs.Ytahaecieklfhkaa
open Go.ChangeShapes Go.WideShapes Go.ChangeAt Go.RowKit
theorem info_up28 : (Try.prog.info? 27).map (fun i => (i.zero, i.size, i.bytes)) = some (some (.agg #[.int .u8 0, .string ⟨#[]⟩, .string ⟨#[]⟩, .int .u64 0]), 4, 48) := by kernel_rfl
theorem info_rup : (Try.prog.info? 30).map (fun i => (i.zero, i.size, i.bytes)) = some (some (.agg #[.int .u8 0, .string ⟨#[]⟩, .string ⟨#[]⟩, .int .u64 0]), 4, 48) := by kernel_rfl
theorem owns_keepB {w w1 : World} {base n s : Nat} {e : TypeId} {v : Value} {xs : List Value} (h : w.ownsRow base e s v n xs) {L : List Nat} (hm : Mods L w w1) (hL : ∀ g, v.ownBlock = some g → g ∉ L) : w1.ownsRow base e s v n xs := by
  refine ⟨h.1, ?_⟩
  rcases h.2 with h | ⟨g, cap, cur, h1, h2, h3, h4⟩
  · exact .inl h
  · exact .inr ⟨g, cap, cur, h1, h2, hm.keep h3 (hL g (by rw [h1]; rfl)), h4⟩
theorem owns_apart {w : World} {b1 b2 n1 n2 s1 s2 : Nat} {e1 e2 : TypeId} {v1 v2 : Value} {xs1 xs2 : List Value} (h1 : w.ownsRow b1 e1 s1 v1 n1 xs1) (h2 : w.ownsRow b2 e2 s2 v2 n2 xs2) (he : e1 ≠ e2) {g q : Nat} (hg : v1.ownBlock = some g) (hq : v2.ownBlock = some q) : g ≠ q := by
  rintro rfl
  rcases h1.2 with ⟨rfl, _⟩ | ⟨g1, c1, cur1, rfl, _, k1, _⟩
  · cases hg
  · rcases h2.2 with ⟨rfl, _⟩ | ⟨g2, c2, cur2, rfl, _, k2, _⟩
    · cases hq
    · simp only [Value.ownBlock, Option.some.injEq] at hg hq
      rw [hg] at k1
      rw [hq, k1] at k2
      injection k2 with k2
      injection k2 with _ k2
      exact he k2
theorem owns_lt {w : World} {base n s : Nat} {e : TypeId} {v : Value} {xs : List Value} (h : w.ownsRow base e s v n xs) {g : Nat} (hg : v.ownBlock = some g) : base ≤ g ∧ g < w.heap.size := by
  rcases h.2 with ⟨rfl, _⟩ | ⟨g1, c1, cur1, rfl, hb, k1, _⟩
  · cases hg
  · simp only [Value.ownBlock, Option.some.injEq] at hg
    subst hg
    exact ⟨hb, lt_of_block k1⟩
theorem mEqual_self {W : World} {b mb : Nat} {E : Ents} (h : IsM W b mb E) {n d : Nat} (hn : E.length = n) (hsm : n < 1000000) {B : Option Addr} (hB : Row W B (eRow E)) :
    Calls Try.prog 15 #[.pointer (some ⟨b, 0, none⟩), .slice B n d] W fun e w' => e = .returned (.bool true) ∧ Mods [] W w' := by
  subst hn
  exact (mEqual_any h hsm hB hsm).mono fun e w' ⟨he, hm⟩ => ⟨by rw [he]; simp, hm⟩
theorem mLen_n {W : World} {b mb n : Nat} {E : Ents} (h : IsM W b mb E) (hn : E.length = n) : Calls Try.prog 16 #[.pointer (some ⟨b, 0, none⟩)] W fun e w' => e = .returned (.int .i64 (n : Nat)) ∧ Mods [] W w' := by
  subst hn; exact mLen_any h
theorem owns_shapeG {w : World} {base n s : Nat} {e : TypeId} {u : Value} {xs : List Value} (h : w.ownsRow base e s u n xs) (_ : 0 < s) : ∃ A cap, u = .slice A n cap ∧ Row w A xs := by
  have hc := fun g hg => h.cells (g := g) hg
  obtain ⟨k1, k2⟩ := h
  rcases k2 with ⟨rfl, rfl⟩ | ⟨g, cap, cur, rfl, hb, _, hn, _⟩
  · exact ⟨none, 0, rfl, .inl (List.eq_nil_of_length_eq_zero (by simpa using k1))⟩
  · refine ⟨_, cap, rfl, .inr ⟨g, 0, rfl, fun i u hi => ?_⟩⟩
    have := hc g rfl i u hi
    rw [addr_add0] at this
    rw [Nat.zero_add]; exact this
theorem blk_own {w : World} {base n d : Nat} {e : TypeId} {B : Option Addr} {xs : List Value} (h : w.ownsRow base e 2 (.slice B n d) n xs) : Row w B xs := by
  obtain ⟨A, c, hA, hr, _⟩ := owns2 h
  injection hA with hA
  subst hA
  exact hr
theorem uRow_app (A B : List Upd) : uRow (A ++ B) = uRow A ++ uRow B := by unfold uRow; simp
set_option maxRecDepth 100000 in
set_option maxHeartbeats 6400000 in
theorem modelPlays_walk {W : World} {A : Option Addr} {len cap : Nat} (l : List Upd) (lo hi : ByteArray) (mo : Int) (hl : l.length = len) (hlc : len ≤ cap) (hcm : cap ≤ maxLen) (hrow : Row W A (uRow l)) (hR : ∀ z ∈ l, upR z) :
    Calls Try.prog 8 #[.agg #[.slice A len cap, .string lo, .string hi, .int .i64 mo]] W fun e w' => e = .returned (.bool true) ∧ Mods [] W w' := by
  have HR := Lib.hid hrow
  have HL := Lib.hid (And.intro hl hR)
  clear hrow hl hR
  unfold maxLen at hcm
  obtain ⟨p, hp⟩ : ∃ p : Nat, min (len : Int) 40 = (p : Int) := ⟨min len 40, by omega⟩
  have hpl : p ≤ len := by omega
  have hp40 : p ≤ 40 := by omega
  obtain ⟨i28, hi28, _, _, _⟩ := info_parts info_up28
  have hsl := fun (k : Int) (h0 : 0 ≤ k) (h1 : k ≤ cap) (W : World) => run_prefix Try.prog 22 27 i28 A len cap k W Try.underlying22 hi28 h0 h1
  obtain ⟨i0, hi0, hz0, hz1, hz2⟩ := info_parts info_rup
  obtain ⟨w0, hw0⟩ : ∃ w0, W.alloc (.cells #[.slice A len cap, .string lo, .string hi, .int .i64 mo] 78) = w0 := ⟨_, rfl⟩
  have hB : Blk w0 W.heap.size 78 [.slice A len cap, .string lo, .string hi, .int .i64 mo] := by rw [← hw0]; exact Blk.new W 78 _
  have hm : Mods [] W w0 := by rw [← hw0]; exact (Mods.refl _ _).alloc _
  have c0 := hB.cell (i := 0) rfl
  have c1 := hB.cell (i := 1) rfl
  have c2 := hB.cell (i := 2) rfl
  have c3 := hB.cell (i := 3) rfl
  have HM := Lib.hid hm
  have hw0' := Lib.hid hw0
  clear hw0 hm hB
  go_enter Try.func8, Try.ntmps8
  go_wp2_with fail
  rw [hw0'.out]
  go_quiet (fail)
  obtain ⟨wz, hwz⟩ : ∃ wz, w0.drewN nq = wz := ⟨_, rfl⟩
  replace HM := Lib.hid (HM.out.drewN nq)
  rw [hwz] at HM ⊢
  clear c0 c1 c2 c3 hw0' hwz nq
  go_wp2_with fail
  have hzw := HM.out.size
  refine (mNew_any _).mono ?_
  rintro x w1 ⟨b, mb, rfl, hI, hm1, hb, hmb⟩
  replace HM := Lib.hid (HM.out.trans hm1 (by simp))
  have HI := Lib.hid hI
  have hbl := hI.lt
  have hzs := HM.out.size
  clear hI hm1
  go_wp2_with fail
  refine (w28_any _).mono ?_
  rintro x w2 ⟨rfl, hm2⟩
  replace HM := Lib.hid (HM.out.trans hm2 (by simp))
  replace HI := Lib.hid (HI.out.keep hm2 (by simp) (by simp))
  have hsz2 := hm2.size
  clear hm2
  go_wp2_with fail
  go_loopw [8, 9, 47] (fun xv av iv wr => ∃ (k n d : Nat) (B : Option Addr) (E : Ents) (U : List Upd), k ≤ p ∧ iv = .int .i64 k ∧ xv = .slice B n d ∧ E.length = n ∧ n ≤ k ∧ wr.ownsRow w1.heap.size 88 2 xv n (eRow E) ∧ wr.ownsRow w1.heap.size 30 4 av k (uRow U) ∧ E = allE [] U ∧ IsM wr b mb E ∧ Mods [] W wr ∧ w1.heap.size ≤ wr.heap.size) (fun _ _ iv _ => p - (intOf iv).toNat)
  case atStart => exact ⟨0, 0, 0, none, [], [], Nat.zero_le _, rfl, rfl, rfl, Nat.le_refl _, by simpa [eRow] using World.ownsRow_nil _ _ _ _, by simpa [uRow] using World.ownsRow_nil _ _ _ _, rfl, HI.out, HM.out, hsz2⟩
  case round =>
    obtain ⟨k, n, d, B, E, U, hk, rfl, rfl, hEn, hnk, hX, hA, hEU, hI, hm, hsr⟩ := hrel
    clear HI HM
    have HI := Lib.hid hI
    have HX := Lib.hid hX
    have HA := Lib.hid hA
    have HM := Lib.hid hm
    have HE := Lib.hid (And.intro hEn hEU)
    by_cases hkl : k < p
    · obtain ⟨y, hy⟩ : ∃ y, l[k]? = some y := ⟨_, List.getElem?_eq_getElem (by rw [HL.out.1]; omega)⟩
      have hyR := Lib.hid (HL.out.2 y (List.mem_of_getElem? hy))
      obtain ⟨bb, ob, rfl, c0, c1, c2, c3⟩ := uRow_at (HR.out.keep hm (fun _ _ => by simp)) hy
      have hqa : ∀ q, u9.ownBlock = some q → w1.heap.size ≤ q ∧ q < wr.heap.size := fun q hq => owns_lt HA.out hq
      clear hI hX hA hm hEn hEU hy
      go_wp2_with fail
      refine (raw28_any y hyR.out).mono ?_
      rintro x w3 ⟨⟨vk, vkey, vval, vd⟩, rfl, hm3⟩
      have hm3 := ((Mods.refl [] wr).alloc _).trans hm3 (by simp)
      replace HI := Lib.hid (HI.out.keep hm3 (by simp) (by simp))
      replace HX := Lib.hid (owns_keepM HX.out hm3 (by simp))
      replace HA := Lib.hid (owns_keepM HA.out hm3 (by simp))
      replace HM := Lib.hid (HM.out.trans hm3 (by simp))
      have hs3 := hm3.size
      clear hm3 c0 c1 c2 c3 hyR
      simp only [ucells]
      go_wp2_with fail
      obtain ⟨w4, hw4⟩ : ∃ w4, (w3.alloc (.cells #[.int .u8 (vk : Nat), .string vkey, .string vval, .int .u64 (vd : Nat)] 30)).alloc (.cells #[.int .u8 (vk : Nat), .string vkey, .string vval, .int .u64 (vd : Nat)] 31) = w4 := ⟨_, rfl⟩
      have hU : Blk w4 w3.heap.size 30 [.int .u8 (vk : Nat), .string vkey, .string vval, .int .u64 (vd : Nat)] := by rw [← hw4]; exact (Blk.new w3 30 [Value.int .u8 (vk : Nat), .string vkey, .string vval, .int .u64 (vd : Nat)]).alloc _
      have hV : Blk w4 (w3.heap.size + 1) 31 [.int .u8 (vk : Nat), .string vkey, .string vval, .int .u64 (vd : Nat)] := by
        have h := Blk.new (w3.alloc (.cells #[.int .u8 (vk : Nat), .string vkey, .string vval, .int .u64 (vd : Nat)] 30)) 31 [Value.int .u8 (vk : Nat), .string vkey, .string vval, .int .u64 (vd : Nat)]
        have e : (w3.alloc (.cells #[.int .u8 (vk : Nat), .string vkey, .string vval, .int .u64 (vd : Nat)] 30)).heap.size = w3.heap.size + 1 := by simp
        rw [e] at h
        rw [← hw4]; exact h
      have hm4 : Mods [] w3 w4 := by rw [← hw4]; exact ((Mods.refl _ _).alloc _).alloc _
      rw [hw4]
      have HU := Lib.hid hU
      have HV := Lib.hid hV
      have hs4 := hm4.size
      have hub : w3.heap.size + 1 < w4.heap.size := hV.lt
      replace HI := Lib.hid (HI.out.keep hm4 (by simp) (by simp))
      replace HX := Lib.hid (owns_keepM HX.out hm4 (by simp))
      replace HA := Lib.hid (owns_keepM HA.out hm4 (by simp))
      replace HM := Lib.hid (HM.out.trans hm4 (by simp))
      clear hw4 hU hV hm4
      refine (rCheck12_any (⟨vk, vkey, vval, vd⟩ : Upd)).mono ?_
      rintro x w5 ⟨rfl, hm5⟩
      have hs5 := hm5.size
      replace HI := Lib.hid (HI.out.keep hm5 (by simp) (by simp))
      replace HX := Lib.hid (owns_keepM HX.out hm5 (by simp))
      replace HA := Lib.hid (owns_keepM HA.out hm5 (by simp))
      replace HU := Lib.hid (HU.out.keep hm5 (by simp))
      replace HV := Lib.hid (HV.out.keep hm5 (by simp))
      replace HM := Lib.hid (HM.out.trans hm5 (by simp))
      clear hm5
      have u0 := HU.out.cell (i := 0) rfl
      have u1 := HU.out.cell (i := 1) rfl
      have u2 := HU.out.cell (i := 2) rfl
      have u3 := HU.out.cell (i := 3) rfl
      have v0 := HV.out.cell (i := 0) rfl
      have v1 := HV.out.cell (i := 1) rfl
      have v2 := HV.out.cell (i := 2) rfl
      have v3 := HV.out.cell (i := 3) rfl
      obtain ⟨e0, he0⟩ : ∃ e0, checkU (⟨vk, vkey, vval, vd⟩ : Upd) = e0 := ⟨_, rfl⟩
      rw [he0]
      have HE0 := Lib.hid he0
      clear he0
      by_cases he : e0 = 0
      · subst he
        by_cases hmay : mayU (getE E ((⟨vk, vkey, vval, vd⟩ : Upd)).key) (⟨vk, vkey, vval, vd⟩ : Upd)
        · as_aux_lemma =>
          have herr : errU E (⟨vk, vkey, vval, vd⟩ : Upd) = 0 := by unfold errU; rw [if_neg (by rw [HE0.out]; simp), if_pos hmay]
          have hst : stepE E (⟨vk, vkey, vval, vd⟩ : Upd) = doE E (⟨vk, vkey, vval, vd⟩ : Upd) := by unfold stepE; rw [if_neg (by rw [herr]; simp)]
          have HER := Lib.hid herr
          have HST := Lib.hid hst
          have HMY := Lib.hid hmay
          clear herr hst hmay
          go_wp2_with fail
          refine (may28_any (blk_own HX.out) HE.out.1 (by omega) (⟨vk, vkey, vval, vd⟩ : Upd)).mono ?_
          rintro x w6 ⟨rfl, hm6⟩
          rw [show decide (mayU (getE E (⟨vk, vkey, vval, vd⟩ : Upd).key) (⟨vk, vkey, vval, vd⟩ : Upd)) = true from decide_eq_true HMY.out]
          have hs6 := hm6.size
          replace HI := Lib.hid (HI.out.keep hm6 (by simp) (by simp))
          replace HX := Lib.hid (owns_keepM HX.out hm6 (by simp))
          replace HA := Lib.hid (owns_keepM HA.out hm6 (by simp))
          replace HU := Lib.hid (HU.out.keep hm6 (by simp))
          replace HV := Lib.hid (HV.out.keep hm6 (by simp))
          replace HM := Lib.hid (HM.out.trans hm6 (by simp))
          clear hm6 u0 u1 u2 u3 v0 v1 v2 v3
          have u0 := HU.out.cell (i := 0) rfl
          have u1 := HU.out.cell (i := 1) rfl
          have u2 := HU.out.cell (i := 2) rfl
          have u3 := HU.out.cell (i := 3) rfl
          have v0 := HV.out.cell (i := 0) rfl
          have v1 := HV.out.cell (i := 1) rfl
          have v2 := HV.out.cell (i := 2) rfl
          have v3 := HV.out.cell (i := 3) rfl
          go_wp2_with fail
          refine (mCopy_any HI.out).mono ?_
          rintro x w7 ⟨b1, mb1, rfl, hJ, hm7, hb1, hmb1⟩
          have HJ := Lib.hid hJ
          have hs7 := hm7.size
          replace HI := Lib.hid (HI.out.keep hm7 (by simp) (by simp))
          replace HX := Lib.hid (owns_keepM HX.out hm7 (by simp))
          replace HA := Lib.hid (owns_keepM HA.out hm7 (by simp))
          replace HU := Lib.hid (HU.out.keep hm7 (by simp))
          replace HV := Lib.hid (HV.out.keep hm7 (by simp))
          replace HM := Lib.hid (HM.out.trans hm7 (by simp))
          clear hJ hm7 u0 u1 u2 u3 v0 v1 v2 v3
          have u0 := HU.out.cell (i := 0) rfl
          have u1 := HU.out.cell (i := 1) rfl
          have u2 := HU.out.cell (i := 2) rfl
          have u3 := HU.out.cell (i := 3) rfl
          have v0 := HV.out.cell (i := 0) rfl
          have v1 := HV.out.cell (i := 1) rfl
          have v2 := HV.out.cell (i := 2) rfl
          have v3 := HV.out.cell (i := 3) rfl
          go_wp2_with fail
          refine (mUpdate_any HI.out (⟨vk, vkey, vval, vd⟩ : Upd)).mono ?_
          rintro x w8 ⟨rfl, hI8, hm8⟩
          rw [HER.out]
          rw [HST.out] at hI8
          replace HI := Lib.hid hI8
          have hs8 := hm8.size
          replace HJ := Lib.hid (HJ.out.keep hm8 (by simp; omega) (by simp; omega))
          replace HU := Lib.hid (HU.out.keep hm8 (by simp; omega))
          replace HV := Lib.hid (HV.out.keep hm8 (by simp; omega))
          replace HX := Lib.hid (owns_keepM HX.out hm8 (fun g hg => by simp; omega))
          replace HA := Lib.hid (owns_keepM HA.out hm8 (fun g hg => by simp; omega))
          replace HM := Lib.hid (HM.out.trans hm8 (fun q hq => .inr (by rw [List.mem_singleton.1 hq]; omega)))
          clear hI8 hm8 u0 u1 u2 u3 v0 v1 v2 v3
          have u0 := HU.out.cell (i := 0) rfl
          have u1 := HU.out.cell (i := 1) rfl
          have u2 := HU.out.cell (i := 2) rfl
          have u3 := HU.out.cell (i := 3) rfl
          have v0 := HV.out.cell (i := 0) rfl
          have v1 := HV.out.cell (i := 1) rfl
          have v2 := HV.out.cell (i := 2) rfl
          have v3 := HV.out.cell (i := 3) rfl
          go_wp2_with fail
          refine (rOn16_any (blk_own HX.out) HE.out.1 (by omega) HJ.out.up (⟨vk, vkey, vval, vd⟩ : Upd) HE0.out HMY.out).mono ?_
          rintro x w9 ⟨B2, d2, n2, rfl, hn2, hO, hm9⟩
          have hs9 := hm9.size
          have HO := Lib.hid (owns2_base hO (show w1.heap.size ≤ w8.heap.size by omega))
          replace HI := Lib.hid (HI.out.keep hm9 (by simp) (by simp))
          replace HJ := Lib.hid (HJ.out.keep hm9 (by simp) (by simp))
          replace HX := Lib.hid (owns_keepM HX.out hm9 (by simp))
          replace HA := Lib.hid (owns_keepM HA.out hm9 (by simp))
          replace HU := Lib.hid (HU.out.keep hm9 (by simp))
          replace HV := Lib.hid (HV.out.keep hm9 (by simp))
          replace HM := Lib.hid (HM.out.trans hm9 (by simp))
          have hE2 := Lib.hid hn2
          have hn2k : n2 ≤ k + 1 := by rw [← hn2, ← HST.out]; exact Nat.le_trans (stepE_len _ _) (by rw [HE.out.1]; omega)
          clear hm9 hO hn2 u0 u1 u2 u3 v0 v1 v2 v3
          have u0 := HU.out.cell (i := 0) rfl
          have u1 := HU.out.cell (i := 1) rfl
          have u2 := HU.out.cell (i := 2) rfl
          have u3 := HU.out.cell (i := 3) rfl
          have v0 := HV.out.cell (i := 0) rfl
          have v1 := HV.out.cell (i := 1) rfl
          have v2 := HV.out.cell (i := 2) rfl
          have v3 := HV.out.cell (i := 3) rfl
          go_wp2_with (at_builtin; refine wpList_append_own _ rfl (.tmp 79) (.tmp 81) 80 rfl w1.heap.size 30 i0 (.agg #[.int .u8 0, .string ⟨#[]⟩, .string ⟨#[]⟩, .int .u64 0]) 4 48 Try.underlying80 hi0 hz0 hz1 hz2 rfl (by decide) _ _ _ rfl (HA.out.alloc _) ⟨w9.heap.size, 0, none⟩ 1 1 (ucells (⟨vk, vkey, vval, vd⟩ : Upd)) rfl rfl (fun j u hj => by rw [addr_add0]; exact (Blk.new w9 30 (ucells (⟨vk, vkey, vval, vd⟩ : Upd))).cell hj) (by simp [ucells, Value.oneCell']) (by unfold maxLen; omega) (by omega) (by simp; omega) ?_; intro va wa howna hga _; have hma : Mods u9.ownBlock.toList w9 wa := ((Mods.refl _ _).alloc _).grown hga (fun q hq => .inl (by have hq2 : u9.ownBlock = some q := hq; simp [hq2])); have hna : ∀ q, (w1.heap.size ≤ q ∧ q < wr.heap.size → False) → q ∉ u9.ownBlock.toList := fun q hf hq => hf (hqa q (by simpa using hq)); have ua1 := (HU.out.keep hma (hna _ (by omega))).cell (i := 1) rfl)
          replace HX := Lib.hid (owns_keepB HX.out hma (fun g hg => by intro hq; exact owns_apart HX.out HA.out (by decide) hg (by simpa using hq) rfl))
          replace HO := Lib.hid (owns_keepB HO.out hma (fun g hg => by intro hq; exact owns_apart HO.out HA.out (by decide) hg (by simpa using hq) rfl))
          replace HA := Lib.hid (show wa.ownsRow w1.heap.size 30 4 va (k + 1) (uRow U ++ ucells (⟨vk, vkey, vval, vd⟩ : Upd)) from howna)
          have hsa := hma.size
          replace HI := Lib.hid (HI.out.keep hma (hna _ (by omega)) (hna _ (by omega)))
          replace HJ := Lib.hid (HJ.out.keep hma (hna _ (by omega)) (hna _ (by omega)))
          replace HU := Lib.hid (HU.out.keep hma (hna _ (by omega)))
          replace HM := Lib.hid (HM.out.trans hma (fun q hq => .inr (by have := hqa q (by simpa using hq); omega)))
          clear hma hga howna hna u0 u1 u2 u3 v0 v1 v2 v3 HV
          refine (rGet16_any (blk_own HO.out) hE2.out (by omega) vkey).mono ?_
          rintro x wb ⟨rfl, rfl⟩
          go_wp2_with fail
          refine (mGet_any HI.out vkey).mono ?_
          rintro x wc ⟨rfl, hmc⟩
          replace HI := Lib.hid (HI.out.keep hmc (by simp) (by simp))
          replace HJ := Lib.hid (HJ.out.keep hmc (by simp) (by simp))
          replace HX := Lib.hid (owns_keepM HX.out hmc (by simp))
          replace HO := Lib.hid (owns_keepM HO.out hmc (by simp))
          replace HA := Lib.hid (owns_keepM HA.out hmc (by simp))
          replace HM := Lib.hid (HM.out.trans hmc (by simp))
          have hsc := hmc.size
          clear hmc ua1 HU
          obtain ⟨ss, hss⟩ : ∃ ss, (getE (doE E (⟨vk, vkey, vval, vd⟩ : Upd)) vkey).getD ⟨#[]⟩ = ss := ⟨_, rfl⟩
          obtain ⟨bs, hbs⟩ : ∃ bs, (getE (doE E (⟨vk, vkey, vval, vd⟩ : Upd)) vkey).isSome = bs := ⟨_, rfl⟩
          rw [hss, hbs]
          clear hss hbs
          go_wp2_with fail
          refine (mLen_n HI.out hE2.out).mono ?_
          rintro x we ⟨rfl, hme⟩
          replace HI := Lib.hid (HI.out.keep hme (by simp) (by simp))
          replace HJ := Lib.hid (HJ.out.keep hme (by simp) (by simp))
          replace HX := Lib.hid (owns_keepM HX.out hme (by simp))
          replace HO := Lib.hid (owns_keepM HO.out hme (by simp))
          replace HA := Lib.hid (owns_keepM HA.out hme (by simp))
          replace HM := Lib.hid (HM.out.trans hme (by simp))
          have hse := hme.size
          clear hme
          go_wp2_with fail
          refine (entries28_any (blk_own HX.out) HE.out.1 (by omega)).mono ?_
          rintro x wf ⟨B3, d3, rfl, hr3, hmf⟩
          replace HI := Lib.hid (HI.out.keep hmf (by simp) (by simp))
          replace HJ := Lib.hid (HJ.out.keep hmf (by simp) (by simp))
          replace HX := Lib.hid (owns_keepM HX.out hmf (by simp))
          replace HO := Lib.hid (owns_keepM HO.out hmf (by simp))
          replace HA := Lib.hid (owns_keepM HA.out hmf (by simp))
          replace HM := Lib.hid (HM.out.trans hmf (by simp))
          have hsf := hmf.size
          have HR3 := Lib.hid hr3
          clear hmf hr3
          go_wp2_with fail
          refine (mEqual_self HJ.out HE.out.1 (by omega) HR3.out).mono ?_
          rintro x wg ⟨rfl, hmg⟩
          replace HI := Lib.hid (HI.out.keep hmg (by simp) (by simp))
          replace HX := Lib.hid (owns_keepM HX.out hmg (by simp))
          replace HO := Lib.hid (owns_keepM HO.out hmg (by simp))
          replace HA := Lib.hid (owns_keepM HA.out hmg (by simp))
          replace HM := Lib.hid (HM.out.trans hmg (by simp))
          have hsg := hmg.size
          clear hmg HR3 HJ
          go_wp2_with fail
          go_roundw
          case rel => exact ⟨k + 1, n2, d2, B2, (doE E (⟨vk, vkey, vval, vd⟩ : Upd)), U ++ [(⟨vk, vkey, vval, vd⟩ : Upd)], by omega, by simp, rfl, hE2.out, by omega, HO.out, by rw [uRow_app]; exact HA.out, by unfold allE; rw [List.foldl_append, show U.foldl stepE [] = E from HE.out.2.symm]; exact HST.out.symm, HI.out, HM.out, by omega⟩
          case measure => simp [intOf]; omega
        · as_aux_lemma =>
          have herr : errU E (⟨vk, vkey, vval, vd⟩ : Upd) = 14 := by unfold errU; rw [if_neg (by rw [HE0.out]; simp), if_neg hmay]
          have hst : stepE E (⟨vk, vkey, vval, vd⟩ : Upd) = E := by unfold stepE; rw [if_pos (by rw [herr]; decide)]
          have HER := Lib.hid herr
          have HST := Lib.hid hst
          have HMY := Lib.hid hmay
          clear herr hst hmay
          go_wp2_with fail
          refine (may28_any (blk_own HX.out) HE.out.1 (by omega) (⟨vk, vkey, vval, vd⟩ : Upd)).mono ?_
          rintro x w6 ⟨rfl, hm6⟩
          rw [show decide (mayU (getE E (⟨vk, vkey, vval, vd⟩ : Upd).key) (⟨vk, vkey, vval, vd⟩ : Upd)) = false from decide_eq_false HMY.out]
          have hs6 := hm6.size
          replace HI := Lib.hid (HI.out.keep hm6 (by simp) (by simp))
          replace HX := Lib.hid (owns_keepM HX.out hm6 (by simp))
          replace HA := Lib.hid (owns_keepM HA.out hm6 (by simp))
          replace HU := Lib.hid (HU.out.keep hm6 (by simp))
          replace HV := Lib.hid (HV.out.keep hm6 (by simp))
          replace HM := Lib.hid (HM.out.trans hm6 (by simp))
          clear hm6 u0 u1 u2 u3 v0 v1 v2 v3
          have u0 := HU.out.cell (i := 0) rfl
          have u1 := HU.out.cell (i := 1) rfl
          have u2 := HU.out.cell (i := 2) rfl
          have u3 := HU.out.cell (i := 3) rfl
          have v0 := HV.out.cell (i := 0) rfl
          have v1 := HV.out.cell (i := 1) rfl
          have v2 := HV.out.cell (i := 2) rfl
          have v3 := HV.out.cell (i := 3) rfl
          go_wp2_with fail
          refine (mCopy_any HI.out).mono ?_
          rintro x w7 ⟨b1, mb1, rfl, hJ, hm7, hb1, hmb1⟩
          have HJ := Lib.hid hJ
          have hs7 := hm7.size
          replace HI := Lib.hid (HI.out.keep hm7 (by simp) (by simp))
          replace HX := Lib.hid (owns_keepM HX.out hm7 (by simp))
          replace HA := Lib.hid (owns_keepM HA.out hm7 (by simp))
          replace HU := Lib.hid (HU.out.keep hm7 (by simp))
          replace HV := Lib.hid (HV.out.keep hm7 (by simp))
          replace HM := Lib.hid (HM.out.trans hm7 (by simp))
          clear hJ hm7 u0 u1 u2 u3 v0 v1 v2 v3
          have u0 := HU.out.cell (i := 0) rfl
          have u1 := HU.out.cell (i := 1) rfl
          have u2 := HU.out.cell (i := 2) rfl
          have u3 := HU.out.cell (i := 3) rfl
          have v0 := HV.out.cell (i := 0) rfl
          have v1 := HV.out.cell (i := 1) rfl
          have v2 := HV.out.cell (i := 2) rfl
          have v3 := HV.out.cell (i := 3) rfl
          go_wp2_with fail
          refine (mUpdate_any HI.out (⟨vk, vkey, vval, vd⟩ : Upd)).mono ?_
          rintro x w8 ⟨rfl, hI8, hm8⟩
          rw [HER.out]
          rw [HST.out] at hI8
          replace HI := Lib.hid hI8
          have hs8 := hm8.size
          replace HJ := Lib.hid (HJ.out.keep hm8 (by simp; omega) (by simp; omega))
          replace HU := Lib.hid (HU.out.keep hm8 (by simp; omega))
          replace HV := Lib.hid (HV.out.keep hm8 (by simp; omega))
          replace HX := Lib.hid (owns_keepM HX.out hm8 (fun g hg => by simp; omega))
          replace HA := Lib.hid (owns_keepM HA.out hm8 (fun g hg => by simp; omega))
          replace HM := Lib.hid (HM.out.trans hm8 (fun q hq => .inr (by rw [List.mem_singleton.1 hq]; omega)))
          clear hI8 hm8 u0 u1 u2 u3 v0 v1 v2 v3
          have u0 := HU.out.cell (i := 0) rfl
          have u1 := HU.out.cell (i := 1) rfl
          have u2 := HU.out.cell (i := 2) rfl
          have u3 := HU.out.cell (i := 3) rfl
          have v0 := HV.out.cell (i := 0) rfl
          have v1 := HV.out.cell (i := 1) rfl
          have v2 := HV.out.cell (i := 2) rfl
          have v3 := HV.out.cell (i := 3) rfl
          go_wp2_with (at_builtin; refine wpList_append_own _ rfl (.tmp 79) (.tmp 81) 80 rfl w1.heap.size 30 i0 (.agg #[.int .u8 0, .string ⟨#[]⟩, .string ⟨#[]⟩, .int .u64 0]) 4 48 Try.underlying80 hi0 hz0 hz1 hz2 rfl (by decide) _ _ _ rfl (HA.out.alloc _) ⟨w8.heap.size, 0, none⟩ 1 1 (ucells (⟨vk, vkey, vval, vd⟩ : Upd)) rfl rfl (fun j u hj => by rw [addr_add0]; exact (Blk.new w8 30 (ucells (⟨vk, vkey, vval, vd⟩ : Upd))).cell hj) (by simp [ucells, Value.oneCell']) (by unfold maxLen; omega) (by omega) (by simp; omega) ?_; intro va wa howna hga _; have hma : Mods u9.ownBlock.toList w8 wa := ((Mods.refl _ _).alloc _).grown hga (fun q hq => .inl (by have hq2 : u9.ownBlock = some q := hq; simp [hq2])); have hna : ∀ q, (w1.heap.size ≤ q ∧ q < wr.heap.size → False) → q ∉ u9.ownBlock.toList := fun q hf hq => hf (hqa q (by simpa using hq)); have ua1 := (HU.out.keep hma (hna _ (by omega))).cell (i := 1) rfl)
          replace HX := Lib.hid (owns_keepB HX.out hma (fun g hg => by intro hq; exact owns_apart HX.out HA.out (by decide) hg (by simpa using hq) rfl))
          replace HA := Lib.hid (show wa.ownsRow w1.heap.size 30 4 va (k + 1) (uRow U ++ ucells (⟨vk, vkey, vval, vd⟩ : Upd)) from howna)
          have hsa := hma.size
          replace HI := Lib.hid (HI.out.keep hma (hna _ (by omega)) (hna _ (by omega)))
          replace HJ := Lib.hid (HJ.out.keep hma (hna _ (by omega)) (hna _ (by omega)))
          replace HU := Lib.hid (HU.out.keep hma (hna _ (by omega)))
          replace HM := Lib.hid (HM.out.trans hma (fun q hq => .inr (by have := hqa q (by simpa using hq); omega)))
          clear hma hga howna hna u0 u1 u2 u3 v0 v1 v2 v3 HV
          refine (rGet16_any (blk_own HX.out) HE.out.1 (by omega) vkey).mono ?_
          rintro x wb ⟨rfl, rfl⟩
          go_wp2_with fail
          refine (mGet_any HI.out vkey).mono ?_
          rintro x wc ⟨rfl, hmc⟩
          replace HI := Lib.hid (HI.out.keep hmc (by simp) (by simp))
          replace HJ := Lib.hid (HJ.out.keep hmc (by simp) (by simp))
          replace HX := Lib.hid (owns_keepM HX.out hmc (by simp))
          replace HA := Lib.hid (owns_keepM HA.out hmc (by simp))
          replace HM := Lib.hid (HM.out.trans hmc (by simp))
          have hsc := hmc.size
          clear hmc ua1 HU
          obtain ⟨ss, hss⟩ : ∃ ss, (getE E vkey).getD ⟨#[]⟩ = ss := ⟨_, rfl⟩
          obtain ⟨bs, hbs⟩ : ∃ bs, (getE E vkey).isSome = bs := ⟨_, rfl⟩
          rw [hss, hbs]
          clear hss hbs
          go_wp2_with fail
          refine (mLen_n HI.out HE.out.1).mono ?_
          rintro x we ⟨rfl, hme⟩
          replace HI := Lib.hid (HI.out.keep hme (by simp) (by simp))
          replace HJ := Lib.hid (HJ.out.keep hme (by simp) (by simp))
          replace HX := Lib.hid (owns_keepM HX.out hme (by simp))
          replace HA := Lib.hid (owns_keepM HA.out hme (by simp))
          replace HM := Lib.hid (HM.out.trans hme (by simp))
          have hse := hme.size
          clear hme
          go_wp2_with fail
          refine (entries28_any (blk_own HX.out) HE.out.1 (by omega)).mono ?_
          rintro x wf ⟨B3, d3, rfl, hr3, hmf⟩
          replace HI := Lib.hid (HI.out.keep hmf (by simp) (by simp))
          replace HJ := Lib.hid (HJ.out.keep hmf (by simp) (by simp))
          replace HX := Lib.hid (owns_keepM HX.out hmf (by simp))
          replace HA := Lib.hid (owns_keepM HA.out hmf (by simp))
          replace HM := Lib.hid (HM.out.trans hmf (by simp))
          have hsf := hmf.size
          have HR3 := Lib.hid hr3
          clear hmf hr3
          go_wp2_with fail
          refine (mEqual_self HJ.out HE.out.1 (by omega) HR3.out).mono ?_
          rintro x wg ⟨rfl, hmg⟩
          replace HI := Lib.hid (HI.out.keep hmg (by simp) (by simp))
          replace HX := Lib.hid (owns_keepM HX.out hmg (by simp))
          replace HA := Lib.hid (owns_keepM HA.out hmg (by simp))
          replace HM := Lib.hid (HM.out.trans hmg (by simp))
          have hsg := hmg.size
          clear hmg HR3 HJ
          go_wp2_with fail
          go_roundw
          case rel => exact ⟨k + 1, n, d, B, E, U ++ [(⟨vk, vkey, vval, vd⟩ : Upd)], by omega, by simp, rfl, HE.out.1, by omega, HX.out, by rw [uRow_app]; exact HA.out, by unfold allE; rw [List.foldl_append, show U.foldl stepE [] = E from HE.out.2.symm]; exact HST.out.symm, HI.out, HM.out, by omega⟩
          case measure => simp [intOf]; omega
      · as_aux_lemma =>
        have herr : errU E (⟨vk, vkey, vval, vd⟩ : Upd) = e0 := by unfold errU; rw [if_pos (by rw [HE0.out]; exact he), HE0.out]
        have hst : stepE E (⟨vk, vkey, vval, vd⟩ : Upd) = E := by unfold stepE; rw [if_pos (by rw [herr]; exact he)]
        have HER := Lib.hid herr
        have HST := Lib.hid hst
        clear herr hst
        go_wp2_with fail
        refine (mCopy_any HI.out).mono ?_
        rintro x w7 ⟨b1, mb1, rfl, hJ, hm7, hb1, hmb1⟩
        have HJ := Lib.hid hJ
        have hs7 := hm7.size
        replace HI := Lib.hid (HI.out.keep hm7 (by simp) (by simp))
        replace HX := Lib.hid (owns_keepM HX.out hm7 (by simp))
        replace HA := Lib.hid (owns_keepM HA.out hm7 (by simp))
        replace HU := Lib.hid (HU.out.keep hm7 (by simp))
        replace HV := Lib.hid (HV.out.keep hm7 (by simp))
        replace HM := Lib.hid (HM.out.trans hm7 (by simp))
        clear hJ hm7 u0 u1 u2 u3 v0 v1 v2 v3
        have u0 := HU.out.cell (i := 0) rfl
        have u1 := HU.out.cell (i := 1) rfl
        have u2 := HU.out.cell (i := 2) rfl
        have u3 := HU.out.cell (i := 3) rfl
        have v0 := HV.out.cell (i := 0) rfl
        have v1 := HV.out.cell (i := 1) rfl
        have v2 := HV.out.cell (i := 2) rfl
        have v3 := HV.out.cell (i := 3) rfl
        go_wp2_with fail
        refine (mUpdate_any HI.out (⟨vk, vkey, vval, vd⟩ : Upd)).mono ?_
        rintro x w8 ⟨rfl, hI8, hm8⟩
        rw [HER.out]
        rw [HST.out] at hI8
        replace HI := Lib.hid hI8
        have hs8 := hm8.size
        replace HJ := Lib.hid (HJ.out.keep hm8 (by simp; omega) (by simp; omega))
        replace HU := Lib.hid (HU.out.keep hm8 (by simp; omega))
        replace HV := Lib.hid (HV.out.keep hm8 (by simp; omega))
        replace HX := Lib.hid (owns_keepM HX.out hm8 (fun g hg => by simp; omega))
        replace HA := Lib.hid (owns_keepM HA.out hm8 (fun g hg => by simp; omega))
        replace HM := Lib.hid (HM.out.trans hm8 (fun q hq => .inr (by rw [List.mem_singleton.1 hq]; omega)))
        clear hI8 hm8 u0 u1 u2 u3 v0 v1 v2 v3
        have u0 := HU.out.cell (i := 0) rfl
        have u1 := HU.out.cell (i := 1) rfl
        have u2 := HU.out.cell (i := 2) rfl
        have u3 := HU.out.cell (i := 3) rfl
        have v0 := HV.out.cell (i := 0) rfl
        have v1 := HV.out.cell (i := 1) rfl
        have v2 := HV.out.cell (i := 2) rfl
        have v3 := HV.out.cell (i := 3) rfl
        go_wp2_with (at_builtin; refine wpList_append_own _ rfl (.tmp 79) (.tmp 81) 80 rfl w1.heap.size 30 i0 (.agg #[.int .u8 0, .string ⟨#[]⟩, .string ⟨#[]⟩, .int .u64 0]) 4 48 Try.underlying80 hi0 hz0 hz1 hz2 rfl (by decide) _ _ _ rfl (HA.out.alloc _) ⟨w8.heap.size, 0, none⟩ 1 1 (ucells (⟨vk, vkey, vval, vd⟩ : Upd)) rfl rfl (fun j u hj => by rw [addr_add0]; exact (Blk.new w8 30 (ucells (⟨vk, vkey, vval, vd⟩ : Upd))).cell hj) (by simp [ucells, Value.oneCell']) (by unfold maxLen; omega) (by omega) (by simp; omega) ?_; intro va wa howna hga _; have hma : Mods u9.ownBlock.toList w8 wa := ((Mods.refl _ _).alloc _).grown hga (fun q hq => .inl (by have hq2 : u9.ownBlock = some q := hq; simp [hq2])); have hna : ∀ q, (w1.heap.size ≤ q ∧ q < wr.heap.size → False) → q ∉ u9.ownBlock.toList := fun q hf hq => hf (hqa q (by simpa using hq)); have ua1 := (HU.out.keep hma (hna _ (by omega))).cell (i := 1) rfl)
        replace HX := Lib.hid (owns_keepB HX.out hma (fun g hg => by intro hq; exact owns_apart HX.out HA.out (by decide) hg (by simpa using hq) rfl))
        replace HA := Lib.hid (show wa.ownsRow w1.heap.size 30 4 va (k + 1) (uRow U ++ ucells (⟨vk, vkey, vval, vd⟩ : Upd)) from howna)
        have hsa := hma.size
        replace HI := Lib.hid (HI.out.keep hma (hna _ (by omega)) (hna _ (by omega)))
        replace HJ := Lib.hid (HJ.out.keep hma (hna _ (by omega)) (hna _ (by omega)))
        replace HU := Lib.hid (HU.out.keep hma (hna _ (by omega)))
        replace HM := Lib.hid (HM.out.trans hma (fun q hq => .inr (by have := hqa q (by simpa using hq); omega)))
        clear hma hga howna hna u0 u1 u2 u3 v0 v1 v2 v3 HV
        refine (rGet16_any (blk_own HX.out) HE.out.1 (by omega) vkey).mono ?_
        rintro x wb ⟨rfl, rfl⟩
        go_wp2_with fail
        refine (mGet_any HI.out vkey).mono ?_
        rintro x wc ⟨rfl, hmc⟩
        replace HI := Lib.hid (HI.out.keep hmc (by simp) (by simp))
        replace HJ := Lib.hid (HJ.out.keep hmc (by simp) (by simp))
        replace HX := Lib.hid (owns_keepM HX.out hmc (by simp))
        replace HA := Lib.hid (owns_keepM HA.out hmc (by simp))
        replace HM := Lib.hid (HM.out.trans hmc (by simp))
        have hsc := hmc.size
        clear hmc ua1 HU
        obtain ⟨ss, hss⟩ : ∃ ss, (getE E vkey).getD ⟨#[]⟩ = ss := ⟨_, rfl⟩
        obtain ⟨bs, hbs⟩ : ∃ bs, (getE E vkey).isSome = bs := ⟨_, rfl⟩
        rw [hss, hbs]
        clear hss hbs
        go_wp2_with fail
        refine (mLen_n HI.out HE.out.1).mono ?_
        rintro x we ⟨rfl, hme⟩
        replace HI := Lib.hid (HI.out.keep hme (by simp) (by simp))
        replace HJ := Lib.hid (HJ.out.keep hme (by simp) (by simp))
        replace HX := Lib.hid (owns_keepM HX.out hme (by simp))
        replace HA := Lib.hid (owns_keepM HA.out hme (by simp))
        replace HM := Lib.hid (HM.out.trans hme (by simp))
        have hse := hme.size
        clear hme
        go_wp2_with fail
        refine (entries28_any (blk_own HX.out) HE.out.1 (by omega)).mono ?_
        rintro x wf ⟨B3, d3, rfl, hr3, hmf⟩
        replace HI := Lib.hid (HI.out.keep hmf (by simp) (by simp))
        replace HJ := Lib.hid (HJ.out.keep hmf (by simp) (by simp))
        replace HX := Lib.hid (owns_keepM HX.out hmf (by simp))
        replace HA := Lib.hid (owns_keepM HA.out hmf (by simp))
        replace HM := Lib.hid (HM.out.trans hmf (by simp))
        have hsf := hmf.size
        have HR3 := Lib.hid hr3
        clear hmf hr3
        go_wp2_with fail
        refine (mEqual_self HJ.out HE.out.1 (by omega) HR3.out).mono ?_
        rintro x wg ⟨rfl, hmg⟩
        replace HI := Lib.hid (HI.out.keep hmg (by simp) (by simp))
        replace HX := Lib.hid (owns_keepM HX.out hmg (by simp))
        replace HA := Lib.hid (owns_keepM HA.out hmg (by simp))
        replace HM := Lib.hid (HM.out.trans hmg (by simp))
        have hsg := hmg.size
        clear hmg HR3 HJ
        go_wp2_with fail
        go_roundw
        case rel => exact ⟨k + 1, n, d, B, E, U ++ [(⟨vk, vkey, vval, vd⟩ : Upd)], by omega, by simp, rfl, HE.out.1, by omega, HX.out, by rw [uRow_app]; exact HA.out, by unfold allE; rw [List.foldl_append, show U.foldl stepE [] = E from HE.out.2.symm]; exact HST.out.symm, HI.out, HM.out, by omega⟩
        case measure => simp [intOf]; omega
    · obtain rfl : k = p := by omega
      clear hsl hX hA hI hm hEn hEU
      have hUl : U.length = k := by
        have h := HA.out.1
        rw [show (uRow U).length = U.length * 4 from flat_length ucells ucells_len U] at h
        omega
      have HUL := Lib.hid hUl
      clear hUl
      obtain ⟨i1, hi1, hy0, hy1, hy2⟩ := info_parts info_entry16
      obtain ⟨wO, rfl⟩ : ∃ wO, wO = wr := ⟨_, rfl⟩
      go_wp2_with fail
      go_loopw [21, 122] (fun ov iv wr => ∃ j : Nat, j ≤ n ∧ iv = .int .i64 j ∧ wr.ownsRow wO.heap.size 88 2 ov (scanE (E.take j) lo hi mo).length (eRow (scanE (E.take j) lo hi mo)) ∧ Mods [] wO wr) (fun _ iv _ => n - (intOf iv).toNat)
      case atStart => exact ⟨0, Nat.zero_le _, rfl, by simpa [scanE, eRow] using World.ownsRow_nil _ _ _ _, Mods.refl _ _⟩
      case round =>
        obtain ⟨j, hj, rfl, hown, hmq⟩ := hrel
        have HO := Lib.hid hown
        have HM2 := Lib.hid hmq
        have hsl := hmq.size
        clear hown
        by_cases hjl : j < n
        · obtain ⟨x, hx⟩ : ∃ x, E[j]? = some x := ⟨_, List.getElem?_eq_getElem (by rw [HE.out.1]; exact hjl)⟩
          obtain ⟨bx, ox, rfl, c0, c1⟩ := eRow_at ((blk_own HX.out).keep hmq (fun _ _ => by simp)) hx
          have ht : E.take (j + 1) = E.take j ++ [x] := by rw [List.take_add_one, hx]; rfl
          have hs := scan_step (E.take j) x lo hi mo
          rw [← ht] at hs
          have hsp := scan_len (E.take j) lo hi mo
          rw [List.length_take] at hsp
          obtain ⟨P, hP⟩ : ∃ P, scanE (E.take j) lo hi mo = P := ⟨_, rfl⟩
          rw [hP] at hs hsp HO
          obtain ⟨pl, hpl⟩ : ∃ pl, P.length = pl := ⟨_, rfl⟩
          rw [hpl] at hs hsp HO
          have HS := Lib.hid (And.intro hs hpl)
          clear hmq hx ht hs hP hpl
          obtain ⟨oa, oc, rfl, _⟩ := owns2 HO.out
          obtain ⟨x1, x2⟩ := x
          simp only at c0 c1
          cases h1 : Op.bytesLess x1.toList lo.toList with
          | true =>
            have hw : ¬ (within lo hi (x1, x2) = true ∧ (pl : Int) < mo) := by
              rintro ⟨e, _⟩; unfold within blt at e; rw [h1] at e; cases e
            have hs2 := HS.out.1
            rw [if_neg hw] at hs2
            have HS2 := Lib.hid hs2
            clear hs2 hw
            go_wp2_with fail
            go_roundw
            case rel => exact ⟨j + 1, by omega, by simp, by rw [HS2.out, HS.out.2]; exact owns_keepM HO.out ((Mods.refl [] wr).alloc _) (by simp), HM2.out.alloc _⟩
            case measure => simp [intOf]; omega
          | false =>
            by_cases hmost : (pl : Int) < mo
            · by_cases hh : hi.size = 0
              · have he : hi.toList.isEmpty = true := empty_of hh
                have he2 : (hi = ByteArray.empty) = True := eq_true ((empty_iff hi).2 hh)
                have hw : within lo hi (x1, x2) = true ∧ (pl : Int) < mo := by
                  refine ⟨?_, hmost⟩; unfold within blt; rw [h1]; simp [hh]
                have hs2 := HS.out.1
                rw [if_pos hw] at hs2
                have HS2 := Lib.hid hs2
                clear hs2 hw
                go_wp2_with (at_builtin; refine wpList_append_own _ rfl (.tmp 146) (.tmp 148) 79 rfl wO.heap.size 88 i1 (.agg #[.string ⟨#[]⟩, .string ⟨#[]⟩]) 2 32 Try.underlying79 hi1 hy0 hy1 hy2 rfl (by decide) _ _ _ rfl ((owns_keepM HO.out ((Mods.refl [] wr).alloc _) (by simp)).alloc _) ⟨wr.heap.size + 1, 0, none⟩ 1 1 (ecells (x1, x2)) rfl rfl (fun j u hj => by rw [addr_add0]; have h := (Blk.new (wr.alloc (.cells #[.string x1, .string x2] 88)) 88 (ecells (x1, x2))).cell hj; simpa [ecells] using h) (by simp [ecells, Value.oneCell']) (by unfold maxLen; omega) (by omega) (by simp; omega) ?_; intro v1 w4 hown1 hg1 _)
                have hm4 : Mods [] wO w4 := ((HM2.out.alloc _).alloc _).grown hg1 (fun q hq => .inr (HO.out.lt q hq).1)
                have HO1 := Lib.hid hown1
                clear hown1 hg1
                go_wp2_with fail
                go_roundw
                case rel =>
                  refine ⟨j + 1, by omega, by go_num, ?_, hm4⟩
                  rw [HS2.out, List.length_append, List.length_singleton, HS.out.2, eRow_app]
                  exact HO1.out
                case measure => simp [intOf]; omega
              · have he := empty_not hh
                have he2 : ¬ hi = ByteArray.empty := fun e => hh ((empty_iff hi).1 e)
                cases h2 : Op.bytesLess x1.toList hi.toList with
                | true =>
                  have hw : within lo hi (x1, x2) = true ∧ (pl : Int) < mo := by
                    refine ⟨?_, hmost⟩; unfold within blt; rw [h1, h2]; simp
                  have hs2 := HS.out.1
                  rw [if_pos hw] at hs2
                  have HS2 := Lib.hid hs2
                  clear hs2 hw
                  go_wp2_with (at_builtin; refine wpList_append_own _ rfl (.tmp 146) (.tmp 148) 79 rfl wO.heap.size 88 i1 (.agg #[.string ⟨#[]⟩, .string ⟨#[]⟩]) 2 32 Try.underlying79 hi1 hy0 hy1 hy2 rfl (by decide) _ _ _ rfl ((owns_keepM HO.out ((Mods.refl [] wr).alloc _) (by simp)).alloc _) ⟨wr.heap.size + 1, 0, none⟩ 1 1 (ecells (x1, x2)) rfl rfl (fun j u hj => by rw [addr_add0]; have h := (Blk.new (wr.alloc (.cells #[.string x1, .string x2] 88)) 88 (ecells (x1, x2))).cell hj; simpa [ecells] using h) (by simp [ecells, Value.oneCell']) (by unfold maxLen; omega) (by omega) (by simp; omega) ?_; intro v1 w4 hown1 hg1 _)
                  have hm4 : Mods [] wO w4 := ((HM2.out.alloc _).alloc _).grown hg1 (fun q hq => .inr (HO.out.lt q hq).1)
                  have HO1 := Lib.hid hown1
                  clear hown1 hg1
                  go_wp2_with fail
                  go_roundw
                  case rel =>
                    refine ⟨j + 1, by omega, by go_num, ?_, hm4⟩
                    rw [HS2.out, List.length_append, List.length_singleton, HS.out.2, eRow_app]
                    exact HO1.out
                  case measure => simp [intOf]; omega
                | false =>
                  have hw : ¬ (within lo hi (x1, x2) = true ∧ (pl : Int) < mo) := by
                    rintro ⟨e, _⟩; unfold within blt at e; rw [h1, h2] at e; simp [hh] at e
                  have hs2 := HS.out.1
                  rw [if_neg hw] at hs2
                  have HS2 := Lib.hid hs2
                  clear hs2 hw
                  go_wp2_with fail
                  go_roundw
                  case rel => exact ⟨j + 1, by omega, by simp, by rw [HS2.out, HS.out.2]; exact owns_keepM HO.out ((Mods.refl [] wr).alloc _) (by simp), HM2.out.alloc _⟩
                  case measure => simp [intOf]; omega
            · by_cases hh : hi.size = 0
              · have he : hi.toList.isEmpty = true := empty_of hh
                have he2 : (hi = ByteArray.empty) = True := eq_true ((empty_iff hi).2 hh)
                have hw : ¬ (within lo hi (x1, x2) = true ∧ (pl : Int) < mo) := by
                  rintro ⟨_, e⟩; exact hmost e
                have hs2 := HS.out.1
                rw [if_neg hw] at hs2
                have HS2 := Lib.hid hs2
                clear hs2 hw
                go_wp2_with fail
                go_roundw
                case rel => exact ⟨j + 1, by omega, by simp, by rw [HS2.out, HS.out.2]; exact owns_keepM HO.out ((Mods.refl [] wr).alloc _) (by simp), HM2.out.alloc _⟩
                case measure => simp [intOf]; omega
              · have he := empty_not hh
                have he2 : ¬ hi = ByteArray.empty := fun e => hh ((empty_iff hi).1 e)
                cases h2 : Op.bytesLess x1.toList hi.toList with
                | true =>
                  have hw : ¬ (within lo hi (x1, x2) = true ∧ (pl : Int) < mo) := by
                    rintro ⟨_, e⟩; exact hmost e
                  have hs2 := HS.out.1
                  rw [if_neg hw] at hs2
                  have HS2 := Lib.hid hs2
                  clear hs2 hw
                  go_wp2_with fail
                  go_roundw
                  case rel => exact ⟨j + 1, by omega, by simp, by rw [HS2.out, HS.out.2]; exact owns_keepM HO.out ((Mods.refl [] wr).alloc _) (by simp), HM2.out.alloc _⟩
                  case measure => simp [intOf]; omega
                | false =>
                  have hw : ¬ (within lo hi (x1, x2) = true ∧ (pl : Int) < mo) := by
                    rintro ⟨_, e⟩; exact hmost e
                  have hs2 := HS.out.1
                  rw [if_neg hw] at hs2
                  have HS2 := Lib.hid hs2
                  clear hs2 hw
                  go_wp2_with fail
                  go_roundw
                  case rel => exact ⟨j + 1, by omega, by simp, by rw [HS2.out, HS.out.2]; exact owns_keepM HO.out ((Mods.refl [] wr).alloc _) (by simp), HM2.out.alloc _⟩
                  case measure => simp [intOf]; omega
        · obtain rfl : j = n := by omega
          rw [List.take_of_length_le (Nat.le_of_eq HE.out.1)] at HO
          have hsp := scan_len E lo hi mo
          rw [HE.out.1] at hsp
          obtain ⟨P, hP⟩ : ∃ P, scanE E lo hi mo = P := ⟨_, rfl⟩
          rw [hP] at HO hsp
          obtain ⟨pl, hpl⟩ : ∃ pl, P.length = pl := ⟨_, rfl⟩
          rw [hpl] at HO hsp
          have HP := Lib.hid (And.intro hP hpl)
          clear hP hpl
          obtain ⟨oa, oc, rfl, _⟩ := owns2 HO.out
          replace HI := Lib.hid (HI.out.keep hmq (by simp) (by simp))
          replace HX := Lib.hid (owns_keepM HX.out hmq (by simp))
          replace HA := Lib.hid (owns_keepM HA.out hmq (by simp))
          replace HM := Lib.hid (HM.out.trans hmq (by simp))
          clear hmq HM2
          go_wp2_with fail
          refine (mScan_any HI.out (by have := HE.out.1; omega) lo hi mo).mono ?_
          rintro x w5 ⟨u, rfl, hgot, hm5⟩
          rw [HP.out.1, HP.out.2] at hgot
          obtain ⟨ga, gc, rfl, hgr, _⟩ := owns2 hgot
          have HG := Lib.hid hgr
          replace HI := Lib.hid (HI.out.keep hm5 (by simp) (by simp))
          replace HX := Lib.hid (owns_keepM HX.out hm5 (by simp))
          replace HA := Lib.hid (owns_keepM HA.out hm5 (by simp))
          replace HM := Lib.hid (HM.out.trans hm5 (by simp))
          replace HO := Lib.hid (owns_keepM HO.out hm5 (by simp))
          clear hgot hgr hm5
          go_wp2_with fail
          go_loopw [25, 163] (fun _ iv wr => ∃ j : Nat, j ≤ pl ∧ iv = .int .i64 j ∧ Mods [] w5 wr) (fun _ iv _ => pl - (intOf iv).toNat)
          case atStart => exact ⟨0, Nat.zero_le _, rfl, Mods.refl _ _⟩
          case round =>
            obtain ⟨i, hi', rfl, hmv⟩ := hrel
            by_cases hil : i < pl
            · obtain ⟨x, hx⟩ : ∃ x, P[i]? = some x := ⟨_, List.getElem?_eq_getElem (by rw [HP.out.2]; exact hil)⟩
              obtain ⟨bx, ox, rfl, c0, c1⟩ := eRow_at (HG.out.keep hmv (fun _ _ => by simp)) hx
              obtain ⟨by_, oy, rfl, e0, e1⟩ := eRow_at ((blk_own HO.out).keep hmv (fun _ _ => by simp)) hx
              have hne : ∀ w, (binOp .neq 42 (.agg #[.string x.1, .string x.2]) (.agg #[.string x.1, .string x.2])).run Try.prog w = .ok (.bool false) w := fun w => by rw [neq_entry]; simp
              have HMV := Lib.hid hmv
              clear hmv hx
              go_wp2_with fail
              go_quiet (fail)
              go_wp2_with fail
              go_roundw
              case rel => exact ⟨i + 1, by omega, by simp, HMV.out.drewN _⟩
              case measure => simp [intOf]; omega
            · obtain rfl : i = pl := by omega
              replace HI := Lib.hid (HI.out.keep hmv (by simp) (by simp))
              replace HX := Lib.hid (owns_keepM HX.out hmv (by simp))
              replace HA := Lib.hid (owns_keepM HA.out hmv (by simp))
              replace HM := Lib.hid (HM.out.trans hmv (by simp))
              clear hmv HG HO
              go_wp2_with fail
              refine (entries28_any (blk_own HX.out) HE.out.1 (by omega)).mono ?_
              rintro x w6 ⟨B3, d3, rfl, hr3, hm6⟩
              replace HI := Lib.hid (HI.out.keep hm6 (by simp) (by simp))
              replace HX := Lib.hid (owns_keepM HX.out hm6 (by simp))
              replace HA := Lib.hid (owns_keepM HA.out hm6 (by simp))
              replace HM := Lib.hid (HM.out.trans hm6 (by simp))
              have HR3 := Lib.hid hr3
              clear hr3 hm6
              go_wp2_with fail
              refine (mEqual_self HI.out HE.out.1 (by omega) HR3.out).mono ?_
              rintro x w7 ⟨rfl, hm7⟩
              replace HX := Lib.hid (owns_keepM HX.out hm7 (by simp))
              replace HA := Lib.hid (owns_keepM HA.out hm7 (by simp))
              replace HM := Lib.hid (HM.out.trans hm7 (by simp))
              clear hm7 HR3 HI
              obtain ⟨aa, ac, rfl, har⟩ := owns_shapeG HA.out (by decide)
              have HAR := Lib.hid har
              have hof := Lib.hid (mOf_any (c := ac) har (by rw [HUL.out]; omega))
              rw [HUL.out, ← HE.out.2] at hof
              clear har
              go_wp2_with fail
              refine hof.out.mono ?_
              rintro x w8 ⟨b9, mb9, rfl, hI9, hm8, _, _⟩
              have HI := Lib.hid hI9
              replace HX := Lib.hid (owns_keepM HX.out hm8 (by simp))
              replace HM := Lib.hid (HM.out.trans hm8 (by simp))
              clear hI9 hm8 hof
              go_wp2_with fail
              refine (entries28_any (blk_own HX.out) HE.out.1 (by omega)).mono ?_
              rintro x w9 ⟨B4, d4, rfl, hr4, hm9⟩
              replace HI := Lib.hid (HI.out.keep hm9 (by simp) (by simp))
              replace HX := Lib.hid (owns_keepM HX.out hm9 (by simp))
              replace HM := Lib.hid (HM.out.trans hm9 (by simp))
              have HR4 := Lib.hid hr4
              clear hr4 hm9
              go_wp2_with fail
              refine (mEqual_self HI.out HE.out.1 (by omega) HR4.out).mono ?_
              rintro x w10 ⟨rfl, hm10⟩
              replace HM := Lib.hid (HM.out.trans hm10 (by simp))
              clear hm10
              go_wp2_with fail
              go_ret
              exact ⟨rfl, HM.out⟩
end Go.Proofs.Ytahaecieklfhkaa
