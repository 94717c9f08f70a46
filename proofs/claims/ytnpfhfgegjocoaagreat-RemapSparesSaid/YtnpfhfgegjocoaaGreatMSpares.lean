/- RemapSpares: whatever the blocks are, and whichever side, the law answers true. No condition but the form's own. -/
import Derived.Test.YtnpfhfgegjocoaaGreatMSparesA
import Derived.Test.YtnpfhfgegjocoaaGreatMG
import Derived.Test.YtnpfhfgegjocoaaGreatMA
import Derived.Deep.CutBlock
import Derived.Outline
namespace Go.Proofs.YtnpfhfgegjocoaaGreat
open Go.ChangeShapes Go.WideShapes Go.ChangeAt Go.RowKit

theorem info_u8S : (Tryz.prog.info? 5).map (fun i => (i.zero, i.size, i.bytes)) = some (some (.int .u8 0), 1, 1) := by kernel_rfl
theorem run_makeMapS (W : World) : (Instr.makeMap 28 none).run Tryz.prog W = .ok (.map (some W.heap.size)) (W.alloc (.map #[] 0)) := by kernel_rfl
def SpW (W w : World) (x : Nat → Nat) (s bm b j : Nat) : Prop := ∃ fx gp P l, SpIn W w x s bm b fx gp P l j ∧ l = (P.tab s).moved
set_option maxRecDepth 100000 in
set_option maxHeartbeats 12800000 in
theorem remapSpares_walk (A : Option Addr) (len cap : Nat) (zs : List Nat) (side : Bool) (W : World) (hr : Row W A (u8sOf zs)) (hz : zs.length = len) (hlc : len ≤ cap) (hcm : cap ≤ maxLen) (hb : ∀ z ∈ zs, z < 256) :
    Calls Tryz.prog 3 #[.slice A len cap, .bool side] W fun e w' => e = .returned (.bool true) ∧ Mods [] W w' := by
  have HR := Lib.hid hr
  have HL := Lib.hid hz
  have HZ := Lib.hid hb
  clear hr hz hb
  unfold maxLen at hcm
  obtain ⟨q, hq⟩ : ∃ q : Nat, min (len : Int) 20 = (q : Int) := ⟨min len 20, by omega⟩
  have hql : q ≤ len := by omega
  have hq20 : q ≤ 20 := by omega
  have hqm : max (q : Int) 0 = (q : Int) := by omega
  obtain ⟨i8, hi8, _, _, _⟩ := info_parts info_u8S
  have hsl := fun (k : Int) (h0 : 0 ≤ k) (h1 : k ≤ cap) (W : World) => run_prefix Tryz.prog 22 5 i8 A len cap k W Tryz.underlying22 hi8 h0 h1
  have hmm := run_makeMapS
  obtain ⟨F, hF⟩ : ∃ F, fullB ⟨#[110, 101, 119]⟩ = F := ⟨_, rfl⟩
  have hFs : F.size = 128 := by rw [← hF]; exact fullB_size _
  have cFull := Lib.hid (fun W => show Calls Tryz.prog 21 #[.string ⟨#[110, 101, 119]⟩] W fun e w' => e = .returned (.string F) ∧ Hid (Mods [] W w') from (qFull_any (W := W) ⟨#[110, 101, 119]⟩ (by decide)).mono fun e w' ⟨z, h1, h2, _, h4⟩ => ⟨by rw [h1, h2.out, hF], h4⟩)
  have cOther := Lib.hid (fun W => qFull_any (W := W) ⟨#[111, 116, 104, 101, 114]⟩ (by decide))
  clear hF
  go_enter Tryz.func3, Tryz.ntmps3
  go_upto_if 34 with (first | (go_at_call 14; refine qFresh_any.mono ?_; rintro e w1 ⟨x, fx, b, gp, P, rfl, HF⟩) | (go_at_call 15; refine qWakes_any.mono ?_; rintro e w2 ⟨rfl, hm2⟩; have HM2 := Lib.hid hm2; clear hm2))
  obtain ⟨s, hs, hside⟩ : ∃ s : Nat, s < 2 ∧ s = if side then 1 else 0 := ⟨_, by split <;> omega, rfl⟩
  go_cut [9, 10] from 34 to 35 (fun kv dv wx => kv = .int .i64 (s : Nat) ∧ dv = .pointer (some ⟨x s, 0, none⟩) ∧ wx = w2)
  case first =>
    cases side with
    | false =>
      have hs0 : s = 0 := hside
      clear hside
      subst hs0
      go_wp2_with fail
      go_meet
      exact ⟨rfl, rfl, rfl⟩
    | true =>
      have hs1 : s = 1 := hside
      clear hside
      subst hs1
      go_wp2_with fail
      go_meet
      exact ⟨rfl, rfl, rfl⟩
  case rest =>
    obtain ⟨rfl, rfl, rfl⟩ := hcut
    clear hside
    go_wp2_with fail
    clear hsl hq hmm
    obtain ⟨w2, rfl⟩ : ∃ w2 : World, w2 = wc := ⟨_, rfl⟩
    obtain ⟨w3, hw3⟩ : ∃ w3, w2.alloc (.map #[] 0) = w3 := ⟨_, rfl⟩
    have hmap : MapK kvJ w3 w2.heap.size (SF fun a => decide (a ∈ ([] : List Nat))) 0 := by rw [← hw3, ← SF_nil]; exact MapK.made w2
    have hm3 : Mods [] w2 w3 := by rw [← hw3]; exact (Mods.refl _ _).alloc _
    rw [hw3]
    obtain ⟨bm, hbm⟩ : ∃ bm, w2.heap.size = bm := ⟨_, rfl⟩
    rw [hbm] at hmap ⊢
    have HI : Hid (SpW W w3 x s bm b 0) := by
      have O := (HF.out.own.still HM2.out)
      have hlt : ∀ g, g < w2.heap.size → bm ≠ g := fun g h e => by omega
      have ht := HF.out.tab s hs
      refine ⟨fx, gp, P, [], ⟨O.still hm3, few0 HF.out.cache, HF.out.tab (1 - s) (by omega), HF.out.bad (1 - s) (by omega), fun q hq => HF.out.bad s hs q (by omega), ⟨0, hmap⟩, fun k hk hx => hlt _ ((O.pair.dev k hk).lt _ hx) rfl, fun hx => hlt _ (O.pair.pb.lt _ hx) rfl, by rw [← hbm]; exact O.mods.size⟩, by rw [ht]⟩
    clear hw3 hmap hm3 hbm HF HM2
    go_loopw [43] (fun iv wr => ∃ i : Nat, i ≤ q ∧ iv = .int .i64 i ∧ SpW W wr x s bm b i) (fun iv _ => q - (intOf iv).toNat)
    case atStart => exact ⟨0, Nat.zero_le _, rfl, HI.out⟩
    case round =>
      clear HI
      obtain ⟨i, hi, rfl, hW⟩ := hrel
      by_cases hlt : i < q
      · have hzi : i < zs.length := by have := HL.out; omega
        obtain ⟨bz, off, rfl, hcell⟩ := (HR.out.keep (by obtain ⟨fx, gp, P, l, h, _⟩ := hW; exact h.own.mods) (fun _ _ => by simp)).at (i := i) (u := .int .u8 (zs[i] : Nat)) (by simp [u8sOf, hzi])
        have hz256 := HZ.out _ (List.getElem_mem hzi)
        generalize zs[i] = z at *
        obtain ⟨k, hk⟩ : ∃ k : Nat, (z : Int).tmod 12 = (k : Int) := ⟨z % 12, by rw [Int.tmod_eq_emod_of_nonneg (by omega)]; omega⟩
        have hk12 : k < 12 := by rw [Int.tmod_eq_emod_of_nonneg (by omega)] at hk; omega
        obtain ⟨fx, gp, P, l, hS, hlm⟩ := hW
        have HS := Lib.hid hS
        have HLM := Lib.hid hlm
        have hi9 : i ≤ 900000 := by omega
        clear hS hlm
        obtain ⟨T, hT⟩ : ∃ T, P.tab s = T := ⟨_, rfl⟩
        obtain ⟨L, hL⟩ : ∃ L, T.spares - T.moved.length = L := ⟨_, rfl⟩
        obtain ⟨a, ha⟩ : ∃ a, (T.at_ (k : Int)).1 = a := ⟨_, rfl⟩
        have hae : (T.at_ (k : Int)).2 = 0 := by rw [← hT, Tab.at_in (by rw [HS.out.own.gd.blocks hs]; exact hk12)]
        have cTb := Lib.hid (oTable HS.out.own hs hT)
        have cAt := Lib.hid (fun (w : World) (v : Value) (h : Hid (TabAt w v T)) => oAt h (k : Int))
        have ha20 : a + 4 < 20 := by rw [← ha, ← hT]; exact HS.out.own.gd.at_lt hs hk12
        rw [ha, hae] at cAt
        have cSt := Lib.hid (fun (w : World) (h : SpIn W w x s bm b fx gp P l i) => spStick h hs hi9 hk12)
        rw [hT, ha, show ((a + 4 : Nat) : Int) = 4 + (a : Int) by omega] at cSt
        have HT := Lib.hid (And.intro hT (And.intro hL ha))
        clear hT hL ha hae
        go_wp2_with (first | (go_at_call 16; refine cTb.out.mono ?_; rintro e w4 ⟨At, ct, rfl, HTA, HM4⟩) | (go_at_call 17; refine (cAt.out _ _ HTA).mono ?_; rintro e w5 ⟨rfl, HM5⟩))
        refine (cSt.out _ ((HS.out.still HM4.out).still HM5.out)).mono ?_
        rintro e w6 ⟨P6, rfl, HS6, HT6, HB6⟩
        have hT6 : P6.tab s = T := by rw [HT6.out]; exact HT.out.1
        have cTb2 := Lib.hid (oTable HS6.out.own hs hT6)
        have cLf := Lib.hid (fun (w : World) (v : Value) (h : Hid (TabAt w v T)) => oLeft h)
        rw [HT.out.2.1] at cLf
        have cWr := Lib.hid (fun (w : World) (h : Mods [] w6 w) => spWrite (HS6.out.still h) hs hi9 hk12 hFs (by rw [hT6, HT.out.2.2]; exact HB6.out) (L := L) (by rw [hT6]; exact HT.out.2.1))
        have HT66 := Lib.hid hT6
        clear cTb cAt cSt HTA HM4 HM5 HS HT6 hT6
        go_wp2_with (first | (go_at_call 16; refine cTb2.out.mono ?_; rintro e w7 ⟨At, ct, rfl, HTA, HM7⟩) | (go_at_call 19; refine (cLf.out _ _ HTA).mono ?_; rintro e w8 ⟨rfl, HM8⟩) | (go_at_call 21; refine (cFull.out _).mono ?_; rintro e w9 ⟨rfl, HM9⟩))
        refine (cWr.out _ ((HM7.out.trans HM8.out (by simp)).trans HM9.out (by simp))).mono ?_
        rintro e wm ⟨c, fx', gp', P', rfl, HSm, HC⟩
        rcases HC.out with ⟨rfl, hL, hmv, hrd⟩ | ⟨rfl, hL, hmv⟩
        · have hL1 : ¬ (L : Int) = 0 := by omega
          have hL2 : 0 < (L : Int) := by omega
          obtain ⟨wn, hupd, HSn⟩ := HSm.out.stored (i := k)
          have cRd := Lib.hid (spRead HSn.out hs (by omega) hrd)
          have HMV := Lib.hid hmv
          clear hmv hrd HC hL cTb2 cLf cWr HTA
          go_wp2_with (first | (go_at_call 22; refine cRd.out.mono ?_; rintro e wp ⟨rfl, HSp⟩) | (go_at_call 21; refine (cFull.out _).mono ?_; rintro e wq ⟨rfl, HMq⟩))
          go_roundw
          case rel => exact ⟨i + 1, by omega, by go_num, fx', gp', P', _, HSp.out.still HMq.out, by rw [HMV.out, HT66.out, ← HT.out.1, HLM.out]⟩
          case measure => simp [intOf]; omega
        · subst hL
          have HMV := Lib.hid hmv
          clear hmv HC cTb2 cLf cWr HTA
          go_wp2_with fail
          go_roundw
          case rel => exact ⟨i + 1, by omega, by go_num, fx', gp', P', _, HSm.out, by rw [HMV.out, HT66.out, ← HT.out.1, HLM.out]⟩
          case measure => simp [intOf]; omega
      · obtain rfl : i = q := by omega
        obtain ⟨fx, gp, P, l, hS, hlm⟩ := hW
        have HS := Lib.hid hS
        obtain ⟨o, ho⟩ : ∃ o, 1 - s = o := ⟨_, rfl⟩
        have ho2 : o < 2 := by omega
        have h1s : (1 : Int) - (s : Int) = (o : Int) := by omega
        have hTo : P.tab o = ⟨12, 4, []⟩ := by rw [← ho]; exact HS.out.oth
        have hbo : (P.dev o).bad.getD (((P.tab o).at_ ((0 : Nat) : Int)).1 + 4) false = false := by rw [← ho]; exact HS.out.obad _ (by omega)
        obtain ⟨T, hT⟩ : ∃ T, P.tab s = T := ⟨_, rfl⟩
        obtain ⟨dn, hdn⟩ : ∃ dn, distinct T.moved = dn := ⟨_, rfl⟩
        have hcnt := HS.out.count hs hlm
        rw [hT, hdn] at hcnt
        have hlen : T.moved.length < 1000000 := by have := HS.out.own.gd.len hs; rw [hT] at this; omega
        have cT1 := Lib.hid (oTable HS.out.own ho2 hTo)
        have cGn := Lib.hid (fun (w : World) (v : Value) (h : Hid (TabAt w v ⟨12, 4, []⟩)) => oGen h)
        have cT2 := Lib.hid (fun (w : World) (h : Mods [] wr w) => oTable (HS.out.own.still h) hs hT)
        have cMv := Lib.hid (fun (w : World) (v : Value) (h : Hid (TabAt w v T)) => oMoved h hlen)
        rw [hdn] at cMv
        have cWr := Lib.hid (fun (w : World) (z : ByteArray) (hz : z.size = 128) (h : Mods [] wr w) => gWriteFine (HS.out.own.pair.keep0 h) HS.out.own.gd ho2 (i := 0) (by decide) (HS.out.few.mono (by omega)) hz hbo)
        have HLN := Lib.hid (fun (w : World) (h : Mods [] wr w) (ty : TypeId) => (hcnt.keep h (by simp)).len (P := Tryz.prog) (T := 28) Tryz.underlying28 ty)
        clear hS hlm hTo hbo hT hdn hcnt hlen ho hlt
        go_wp2_with (first
          | (go_at_call 16; refine cT1.out.mono ?_; rintro e w4 ⟨At, ct, rfl, HTA, HM4⟩)
          | (go_at_call 23; refine (cGn.out _ _ HTA).mono ?_; rintro e w5 ⟨rfl, HM5⟩; have HM45 := Lib.hid (HM4.out.trans HM5.out (by simp)); clear cT1)
          | (go_at_call 16; refine (cT2.out _ HM45.out).mono ?_; rintro e w6 ⟨At, ct, rfl, HTB, HM6⟩)
          | (go_at_call 24; refine (cMv.out _ _ HTB).mono ?_; rintro e w7 ⟨Am, cm, rfl, HM7⟩; have HM47 := Lib.hid ((HM45.out.trans HM6.out (by simp)).trans HM7.out (by simp)); have hln := HLN.out w7 HM47.out)
          | (go_at_call 21; refine (cOther.out _).mono ?_; rintro e w8 ⟨z, rfl, HZZ, hzz, HM8⟩; have HM48 := Lib.hid (HM47.out.trans HM8.out (by simp))))
        refine (cWr.out _ z hzz HM48.out).mono ?_
        rintro e w9 ⟨P9, gp9, fx9, rfl, HP9, HG9⟩
        clear hln
        go_wp2_with fail
        go_ret
        exact ⟨rfl, ((HS.out.own.still HM48.out).to HP9.out HG9.out).mods⟩
theorem readables_remapSpares : ∀ t ∈ (#[22, 4] : Array TypeId).toList, Tryz.prog.readableRec t = true ∧ t < Tryz.prog.types.size := by
  intro t ht
  simp only [List.mem_cons, List.not_mem_nil, or_false] at ht
  rcases ht with rfl | rfl
  all_goals exact ⟨by kernel_rfl, of_decide_eq_true (by kernel_rfl)⟩

set_option maxRecDepth 100000 in
theorem remapSpares_contract (H : Type) (enc : TypeId × Value → H) (W : World) (base : Nat) (args : Array Value) (ds gs : List (DataW H)) (before : List MemPlace)
    (hval : ∀ (j : Nat) t v, Tryz.f3.params[j]? = some t → args[j]? = some v → Value.okWide Tryz.prog W .any base t v)
    (hW : DataW.Whole enc Tryz.prog Tryz.f3.params.toList Rows.remapSparesSpec.vars false W args.toList ds gs before) :
    Calls Tryz.prog 3 args W fun e W' => ∃ v, e = .returned v ∧ Rows.remapSparesSpec.post enc Tryz.prog Tryz.f3 false true false false W args v W' := by
  have hW' := hW
  obtain ⟨p, q, hA0, hV, he, hfz, hnd⟩ := hW
  have hA : DataW.TrodAll enc Tryz.prog W 0 (fun _ => true) true Tryz.f3.params.toList args.toList ds p := hA0
  rw [Tryz.params3] at hA hval
  obtain ⟨v0, vs0, d0, ds0, p0, q0, hargs, rfl, rfl, h0, r0⟩ := trodAll_cons hA
  obtain ⟨v1, vs1, d1, ds1, p1, q1, rfl, rfl, rfl, h1, r1⟩ := trodAll_cons r0
  obtain ⟨rfl, rfl, rfl⟩ := trodAll_nil r1
  obtain rfl : args = #[v0, v1] := by cases args; simp_all
  obtain ⟨lA, lLen, lCap, l, rfl, lRow, lL, lC, lM, lB⟩ := u8s_open Tryz.underlying22 Tryz.underlying5 cellsU8 (hval 0 22 v0 rfl rfl) h0
  obtain ⟨side, rfl, rfl, rfl⟩ := open_bool Tryz.underlying4 (hval 1 4 v1 rfl rfl) h1
  refine (remapSpares_walk lA lLen lCap l side W lRow lL lC lM lB).mono fun e W' ⟨he', hm⟩ => ?_
  subst he'
  exact ⟨_, rfl, post_law laidOut (by rw [Tryz.params3]; exact readables_remapSpares) (by rfl) Tryz.underlying4 rfl rfl hW' hm.below⟩

set_option maxRecDepth 100000 in
theorem remapSpares_lifted (os : Os) (started : os.Started) (H : Type) (enc : TypeId × Value → H) :
    ReturnsInHanded {} Tryz.checked os 3 .any (Rows.remapSparesSpec.pre6 enc Tryz.prog Tryz.f3 Rows.remapSparesRow.domain false) (Rows.remapSparesSpec.post enc Tryz.prog Tryz.f3 false true false false) := by
  refine returnsInHanded_of_change (C := Tryz.checked) own started (by kernel_rfl) Tryz.func3
    (ChangeSpec.witness6 (enc := enc) (C := Tryz.checked) false ⟨#[], #[.slice none 0 0, .bool false], []⟩ 8 (by kernel_rfl) (by kernel_rfl) (by kernel_rfl) (by kernel_rfl)) ?_
  intro W base args ds gs before hval hW _ _
  exact remapSpares_contract H enc W base args ds gs before hval hW

/-- The law. -/
theorem remapSpares_said : Rows.RemapSparesSaid :=
  OpenClaim.holds_of_wide 3 Tryz.f3 rfl rfl rfl rfl rfl rfl rfl ⟨rfl, rfl, rfl, rfl, rfl⟩ rfl rfl rfl rfl rfl (by kernel_rfl) Tryz.func3 (by kernel_rfl)
    (of_decide_eq_true (by kernel_rfl)) (by unfold Func.isWrapper; first | (rw [if_pos (by decide +kernel)]; kernel_rfl) | (rw [if_neg (by decide +kernel)]; exact ⟨rfl, rfl⟩))
    (fun os started H enc _ => remapSpares_lifted os started H enc)
end Go.Proofs.YtnpfhfgegjocoaaGreat
