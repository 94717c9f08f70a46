/- SpaceGens: for every generation and every byte the law answers true: generations rise by one, up to the last one, and stay there. No condition but the form's own and the table's of math/bits, which the card ties to the program's text. -/
import Derived.Test.YtahaecieklfhkaaDoorLaid
import Derived.Test.YtahaecieklfhkaaDoorLawPost
import Derived.Test.YtahaecieklfhkaaDoorSpace5
namespace Go.Proofs.YtahaecieklfhkaaDoor
open Go.ChangeShapes Go.WideShapes Go.ChangeAt Go.RowKit

theorem spStep_to {w : World} {b : Nat} {fp : List Nat} {S : Sp} (h : IsSpace w b fp S) (g : Nat) (c : Int) (S2 : Sp) (h1 : S.stepG = g) (h2 : S.stepE = c) (h3 : S.step = S2) :
    Calls Tryd.prog 25 #[.pointer (some ⟨b, 0, none⟩)] w fun e w' => e = .returned (.tuple #[.int .u64 g, .int .i64 c]) ∧ Mods fp w w' ∧ IsSpace w' b fp S2 := by
  subst h1 h2 h3; exact spStep_any h
theorem spGen_to {w : World} {b : Nat} {fp : List Nat} {S : Sp} (h : IsSpace w b fp S) (g : Nat) (h1 : S.gen = g) :
    Calls Tryd.prog 26 #[.pointer (some ⟨b, 0, none⟩)] w fun e w' => e = .returned (.int .u64 g) ∧ w = w' := by
  subst h1; exact spGen_any h

set_option maxHeartbeats 1000000 in
theorem spaceGens_wrap (g n v : Nat) (w : World) (hT : Tab w) (hv : IntKind.u64.wrap ((g : Int) + (n : Int) % 20) = (v : Int)) (hlt : v < g) (hn : n < 256) :
    Calls Tryd.prog 7 #[.int .u64 g, .int .u8 n] w fun e w' => e = .returned (.bool true) ∧ Mods [] w w' := by
  have HT := Lib.hid hT
  have hd : decide (v < g) = true := by simpa using hlt
  clear hT
  go_enter Tryd.func7, Tryd.ntmps7
  go_wp2_with (go_at_call 23; refine (w10_any _ HT.out).mono ?_; rintro e w1 ⟨rfl, hm⟩)
  go_ret
  exact ⟨rfl, hm⟩

set_option maxHeartbeats 4000000 in
set_option maxRecDepth 100000 in
theorem spaceGens_even (g n v d : Nat) (w : World) (hT : Tab w) (hv : IntKind.u64.wrap ((g : Int) + (n : Int) % 20) = (v : Int)) (hvd : v = g + d) (hd20 : d < 20) (hmax : g + d < 18446744073709551616) (hn : n < 256) :
    Calls Tryd.prog 7 #[.int .u64 g, .int .u8 n] w fun e w' => e = .returned (.bool true) ∧ Mods [] w w' := by
  have hTl := hT.lt
  have HT := Lib.hid hT
  have hd : decide (v < g) = false := by simp; omega
  have hnew := spNew_any w 4 1 g v (by omega) (by omega) (by omega) (by omega)
  have HN := Lib.hid hnew
  have HV := Lib.hid hvd
  have HMX := Lib.hid hmax
  have hSg : (Sp.new 4 1 g v).gen = g ∧ (Sp.new 4 1 g v).last = v := ⟨rfl, rfl⟩
  obtain ⟨S0, hS0⟩ : ∃ S0, Sp.new 4 1 g v = S0 := ⟨_, rfl⟩
  rw [hS0] at hSg hnew
  have HSG := Lib.hid hSg
  have HN := Lib.hid hnew
  clear hT hnew hvd hmax hSg hS0
  go_enter Tryd.func7, Tryd.ntmps7
  go_wp2_with fail
  refine HN.out.mono ?_
  rintro e w1 ⟨b, fp, rfl, hm1, hs1, hf1⟩
  have HT1 := Lib.hid (HT.out.keep hm1 (by simp))
  have HF : Hid (∀ k ∈ fp, k ∈ ([] : List Nat) ∨ w.heap.size ≤ k) := fun k hk => .inr (hf1 k hk)
  have HM1 := Lib.hid hm1
  have HS1 := Lib.hid hs1
  clear hm1 hs1 hf1
  go_wp2_with fail
  refine (w10_any _ HT1.out).mono ?_
  rintro e w2 ⟨rfl, hm2⟩
  have HS2 := Lib.hid (HS1.out.keep hm2 (by simp))
  have HM2 := Lib.hid (HM1.out.trans hm2 (by simp))
  clear hm2 HS1 HM1 HT1
  go_wp2_with fail
  clear hv
  go_loopw [37] (fun iv wr => ∃ i : Nat, i ≤ 25 ∧ iv = .int .u64 i ∧ ∃ S : Sp, IsSpace wr b fp S ∧ Hid (S.gen = min (g + i) v ∧ S.last = v) ∧ Mods [] w wr) (fun iv _ => 25 - (intOf iv).toNat)
  case atStart =>
    exact ⟨0, by omega, rfl, S0, HS2.out, by
      obtain ⟨e1, e2⟩ := HSG.out
      refine ⟨?_, e2⟩
      rw [e1]; have := HV.out; omega, HM2.out⟩
  case round =>
    obtain ⟨i, hi, rfl, S, hS, hSg, hM⟩ := hrel
    have HS := Lib.hid hS
    have HM := Lib.hid hM
    clear hS hM
    by_cases hlt : i < 25
    · by_cases hid' : i < d
      · have hstep : S.stepG = g + i + 1 ∧ S.stepE = 0 ∧ S.step = { S with gen := g + i + 1 } := by
          obtain ⟨e1, e2⟩ := hSg.out
          have hv2 := HV.out
          have hn : ¬ S.last ≤ S.gen := by rw [e1, e2]; omega
          have e3 : S.gen = g + i := by rw [e1]; omega
          refine ⟨?_, ?_, ?_⟩
          · rw [Sp.stepG, if_neg hn, e3]
          · rw [Sp.stepE, if_neg hn]
          · rw [Sp.step, if_neg hn, e3]
        obtain ⟨S2, hS2⟩ : ∃ S2 : Sp, ({ S with gen := g + i + 1 } : Sp) = S2 := ⟨_, rfl⟩
        have hg2 : S2.gen = g + i + 1 ∧ S2.last = v := by rw [← hS2]; exact ⟨rfl, hSg.out.2⟩
        rw [hS2] at hstep
        obtain ⟨a, ha⟩ : ∃ a : Nat, g + i + 1 = a := ⟨_, rfl⟩
        rw [ha] at hstep hg2
        have hst := spStep_to HS.out a 0 S2 hstep.1 hstep.2.1 hstep.2.2
        have HST := Lib.hid hst
        have HG2 := Lib.hid hg2
        have hv2 := HV.out
        have hmx := HMX.out
        have e1 : IntKind.u64.wrap ((g : Int) + (i : Int)) = ((g + i : Nat) : Int) := by rw [IntKind.wrap_u64]; omega
        have e2 : IntKind.u64.wrap (((g + i : Nat) : Int) + 1) = (a : Int) := by rw [IntKind.wrap_u64]; omega
        have d1 : decide (a ≤ v) = true := by simp; omega
        have d2 : decide (g < a) = true := by simp; omega
        have hga : g < a := by omega
        have hav : a ≤ v := by omega
        obtain ⟨a0, ha0⟩ : ∃ a0 : Nat, g + i = a0 := ⟨_, rfl⟩
        rw [ha0] at e1 e2
        have HA := Lib.hid (And.intro ha ha0)
        clear hstep hS2 hg2 hst hv2 hmx ha ha0
        go_wp2_with fail
        refine HST.out.mono ?_
        rintro e w3 ⟨rfl, hm3, hs3⟩
        have HM3 := Lib.hid (HM.out.trans hm3 HF.out)
        have HS3 := Lib.hid hs3
        clear hm3 hs3
        go_wp2_with fail
        refine (spGen_to HS3.out a HG2.out.1).mono ?_
        rintro e w' ⟨rfl, rfl⟩
        go_wp2_with fail
        go_roundw
        case rel => exact ⟨i + 1, by omega, by go_num, S2, HS3.out, ⟨by rw [HG2.out.1]; have := HA.out.1; have := HV.out; omega, HG2.out.2⟩, HM3.out⟩
        case measure => simp [intOf]; omega
      · have hstep : S.stepG = 0 ∧ S.stepE = 12 ∧ S.step = S := by
          obtain ⟨e1, e2⟩ := hSg.out
          have hv2 := HV.out
          have hn : S.last ≤ S.gen := by rw [e1, e2]; omega
          exact ⟨by rw [Sp.stepG, if_pos hn], by rw [Sp.stepE, if_pos hn], by rw [Sp.step, if_pos hn]⟩
        have hgen : S.gen = v := by rw [hSg.out.1]; have := HV.out; omega
        have HST := Lib.hid (spStep_to HS.out 0 12 S hstep.1 hstep.2.1 hstep.2.2)
        have HG := Lib.hid hgen
        obtain ⟨a0, ha0⟩ : ∃ a0 : Nat, (g + i) % 18446744073709551616 = a0 := ⟨_, rfl⟩
        obtain ⟨a, ha⟩ : ∃ a : Nat, (a0 + 1) % 18446744073709551616 = a := ⟨_, rfl⟩
        have e1 : IntKind.u64.wrap ((g : Int) + (i : Int)) = (a0 : Int) := by rw [IntKind.wrap_u64]; omega
        have e2 : IntKind.u64.wrap ((a0 : Int) + 1) = (a : Int) := by rw [IntKind.wrap_u64]; omega
        have hmore : a ≤ v → ¬ g < a := by have := HV.out; have := HMX.out; omega
        clear hstep hgen ha0 ha
        by_cases hav : a ≤ v
        · have d1 : decide (a ≤ v) = true := by simpa using hav
          have d2 : decide (g < a) = false := by simpa using hmore hav
          clear hmore
          go_wp2_with fail
          refine HST.out.mono ?_
          rintro e w3 ⟨rfl, hm3, hs3⟩
          have HM3 := Lib.hid (HM.out.trans hm3 HF.out)
          have HS3 := Lib.hid hs3
          clear hm3 hs3
          go_wp2_with fail
          refine (spGen_to HS3.out v HG.out).mono ?_
          rintro e w' ⟨rfl, rfl⟩
          go_wp2_with fail
          go_roundw
          case rel => exact ⟨i + 1, by omega, by go_num, S, HS3.out, ⟨by rw [HG.out]; have := HV.out; omega, hSg.out.2⟩, HM3.out⟩
          case measure => simp [intOf]; omega
        · have d1 : decide (a ≤ v) = false := by simpa using hav
          clear hmore
          go_wp2_with fail
          refine HST.out.mono ?_
          rintro e w3 ⟨rfl, hm3, hs3⟩
          have HM3 := Lib.hid (HM.out.trans hm3 HF.out)
          have HS3 := Lib.hid hs3
          clear hm3 hs3
          go_wp2_with fail
          refine (spGen_to HS3.out v HG.out).mono ?_
          rintro e w' ⟨rfl, rfl⟩
          go_wp2_with fail
          go_roundw
          case rel => exact ⟨i + 1, by omega, by go_num, S, HS3.out, ⟨by rw [HG.out]; have := HV.out; omega, hSg.out.2⟩, HM3.out⟩
          case measure => simp [intOf]; omega
    · obtain rfl : i = 25 := by omega
      go_wp2_with fail
      go_ret
      exact ⟨rfl, HM.out⟩
theorem spaceGens_walk (g n : Nat) (w : World) (hT : Tab w) (hg : g < 18446744073709551616) (hn : n < 256) :
    Calls Tryd.prog 7 #[.int .u64 g, .int .u8 n] w fun e w' => e = .returned (.bool true) ∧ Mods [] w w' := by
  by_cases h : g + n % 20 < 18446744073709551616
  · exact spaceGens_even g n (g + n % 20) (n % 20) w hT (by rw [IntKind.wrap_u64]; omega) rfl (by omega) h hn
  · exact spaceGens_wrap g n (g + n % 20 - 18446744073709551616) w hT (by rw [IntKind.wrap_u64]; omega) (by omega) hn
theorem readables_spaceGens : ∀ t ∈ (#[48, 5] : Array TypeId).toList, Tryd.prog.readableRec t = true ∧ t < Tryd.prog.types.size := by
  intro t ht
  simp only [List.mem_cons, List.not_mem_nil, or_false] at ht
  rcases ht with rfl | rfl
  all_goals exact ⟨by kernel_rfl, of_decide_eq_true (by kernel_rfl)⟩
theorem standIns_spaceGens (j : Nat) (t : TypeId) (ht : (#[48, 5] : Array TypeId)[j]? = some t) : Tryd.pinned.checked.prog.wantsStandIn t = false := by
  have hm := Array.mem_of_getElem? ht
  simp only [List.mem_toArray, List.mem_cons, List.not_mem_nil, or_false] at hm
  rcases hm with rfl | rfl
  · exact (show Tryd.prog.wantsStandIn 48 = false by kernel_rfl)
  · exact (show Tryd.prog.wantsStandIn 5 = false by kernel_rfl)

theorem spaceGens_contract (H : Type) (enc : TypeId × Value → H) (W : World) (base : Nat) (args : Array Value) (ds gs : List (DataW H)) (before : List MemPlace)
    (hval : ∀ (j : Nat) t v, Tryd.f7.params[j]? = some t → args[j]? = some v → Value.okWide Tryd.prog W .any base t v)
    (hW : DataW.Whole enc Tryd.prog Tryd.f7.params.toList Rows.spaceGensSpec.vars false W args.toList ds gs before) (hL : laidMetH Tryd.prog laidVars W) :
    Calls Tryd.prog 7 args W fun e W' => ∃ v, e = .returned v ∧ Rows.spaceGensSpec.post enc Tryd.prog Tryd.f7 false true false false W args v W' := by
  have hW' := hW
  obtain ⟨p, q, hA0, hV, he, hfz, hnd⟩ := hW
  have hA : DataW.TrodAll enc Tryd.prog W 0 (fun _ => true) true Tryd.f7.params.toList args.toList ds p := hA0
  rw [Tryd.params7] at hA hval
  obtain ⟨v0, vs0, d0, ds0, p0, q0, hargs, rfl, rfl, h0, r0⟩ := trodAll_cons hA
  obtain ⟨v1, vs1, d1, ds1, p1, q1, rfl, rfl, rfl, h1, r1⟩ := trodAll_cons r0
  obtain ⟨rfl, rfl, rfl⟩ := trodAll_nil r1
  obtain rfl : args = #[v0, v1] := by cases args; simp_all
  obtain ⟨g', rfl, rfl, rfl, wg⟩ := open_int Tryd.underlying48 (hval 0 48 v0 rfl rfl) h0
  have bg := bounds_u64 wg
  obtain ⟨g, rfl⟩ := Int.eq_ofNat_of_zero_le bg.1
  obtain ⟨n', rfl, rfl, rfl, wn⟩ := open_int Tryd.underlying5 (hval 1 5 v1 rfl rfl) h1
  have bn := bounds_u8 wn
  obtain ⟨n, rfl⟩ := Int.eq_ofNat_of_zero_le bn.1
  refine (spaceGens_walk g n W (tab_of_laid hL) (by omega) (by omega)).mono fun e W' ⟨he', hm⟩ => ?_
  subst he'
  exact ⟨_, rfl, post_law laidOut (by rw [Tryd.params7]; exact readables_spaceGens) (by rfl) Tryd.underlying4 rfl rfl hW' hm.below⟩

theorem spaceGens_reads (os : Os) {H : Type} (enc : TypeId × Value → H) : ∃ places, DataW.whole enc Tryd.prog ((laidWorld os).forCall (fun _ _ => 0) ⟨#[], #[.int .u64 0, .int .u8 0], []⟩).memory Tryd.f7.params.toList Rows.spaceGensSpec.vars false (#[.int .u64 0, .int .u8 0] : Array Value).toList 8 = some ([.lit (.int .u64 0), .lit (.int .u8 0)], [], places) :=
  ⟨[], by kernel_rfl⟩

set_option maxRecDepth 100000 in
theorem spaceGens_lifted (os : Os) (started : os.Started) (H : Type) (enc : TypeId × Value → H) (F : Stop.Interp) :
    ReturnsInHanded {} Tryd.checked os 7 .any ((OpenSpec.ofChange Rows.spaceGensSpec).preRow enc Tryd.prog Tryd.f7 Rows.spaceGensRow.domain false Rows.spaceGensRow.laid) (((OpenSpec.ofChange Rows.spaceGensSpec).at F).post enc Tryd.prog Tryd.f7 false true false false) := by
  obtain ⟨places, hx⟩ := spaceGens_reads os enc
  refine returnsInHanded_of_row (C := Tryd.checked) (s := OpenSpec.ofChange Rows.spaceGensSpec) own started (by kernel_rfl) Tryd.func7
    (witness_row_at (enc := enc) (C := Tryd.checked) false (laidWorld os) #[.int .u64 0, .int .u8 0] rfl (by kernel_rfl) (by kernel_rfl) (by kernel_rfl)
      (OpenSpec.preRow_of_cond 8 hx (by kernel_rfl) (fun k hk => by cases hk) (by kernel_rfl) (laid_met os _))) ?_
  intro W base args ds gs before hval hW _ _ _ hL _ _
  exact spaceGens_contract H enc W base args ds gs before hval hW hL

theorem spaceGens_said : Rows.SpaceGensSaid :=
  OpenClaim.holds_of_cond 7 Tryd.f7 rfl rfl rfl rfl rfl rfl rfl ⟨rfl, rfl, rfl, rfl, rfl⟩ rfl rfl rfl rfl rfl (by kernel_rfl) Tryd.func7 (by kernel_rfl)
    (of_decide_eq_true (by kernel_rfl)) (by unfold Func.isWrapper; first | (rw [if_pos (by decide +kernel)]; kernel_rfl) | (rw [if_neg (by decide +kernel)]; exact ⟨rfl, rfl⟩))
    (fun os started H enc _ F => by rw [OpenClaim.pre_eq_preRow]; exact spaceGens_lifted os started H enc F)

theorem spaceGens_plain (f : FuncId) (fn : Func) (hf : Tryd.pinned.checked.prog.funcNamed "treenail/treenaillaw10.SpaceGens" = some f) (hfn : Tryd.pinned.checked.prog.funcs[f]? = some fn) :
    false = Tryd.pinned.checked.prog.looks [] ∧ ∀ (j : Nat) t, fn.params[j]? = some t → Tryd.pinned.checked.prog.wantsStandIn t = false := by
  obtain rfl : f = 7 := Option.some.inj ((show Tryd.prog.funcNamed "treenail/treenaillaw10.SpaceGens" = some 7 by kernel_rfl).symm.trans hf) |>.symm
  obtain rfl : fn = Tryd.f7 := (Option.some.inj (Tryd.func7.symm.trans hfn)).symm
  refine ⟨by kernel_rfl, fun j t ht => ?_⟩
  rw [Tryd.params7] at ht
  exact standIns_spaceGens j t ht

/-- The card. -/
theorem spaceGens_card : Rows.SpaceGensCardSaid :=
  Claim7.holds_tied_plain_at .later [] _ _ _ _ spaceGens_said (fun _ h => by cases h) (by kernel_rfl) (fun _ h => by cases h) spaceGens_row_tie rfl ⟨rfl, rfl⟩ (by kernel_rfl) rfl spaceGens_plain (by kernel_rfl)
end Go.Proofs.YtahaecieklfhkaaDoor
