/- SpaceNone: for every number the law answers true: of a nil space nothing is told. No condition but the form's own and the table's of math/bits, which the card ties to the program's text. -/
import Derived.Test.YtahaecieklfhkaaDoorLaid
import Derived.Test.YtahaecieklfhkaaDoorLawPost
import Derived.Test.YtahaecieklfhkaaDoorSpace5
namespace Go.Proofs.YtahaecieklfhkaaDoor
open Go.ChangeShapes Go.WideShapes Go.ChangeAt Go.RowKit

set_option maxHeartbeats 1000000 in
theorem spaceNone_walk (k : Int) (w : World) (hT : Tab w) :
    Calls Tryd.prog 10 #[.int .i64 k] w fun e w' => e = .returned (.bool true) ∧ Mods [] w w' := by
  have HT := Lib.hid hT
  clear hT
  go_enter Tryd.func10, Tryd.ntmps10
  go_wp2_with (first
    | (go_at_call 29; refine (spSettle_nil _).mono ?_; rintro e w' ⟨rfl, rfl⟩)
    | (go_at_call 30; refine (spUndo_nil _).mono ?_; rintro e w' ⟨rfl, rfl⟩)
    | (go_at_call 27; refine (spTake_nil _).mono ?_; rintro e w' ⟨rfl, rfl⟩)
    | (go_at_call 25; refine (spStep_nil _).mono ?_; rintro e w' ⟨rfl, rfl⟩)
    | (go_at_call 23; refine (w10_any _ HT.out).mono ?_; rintro e w1 ⟨rfl, hm⟩)
    | (go_at_call 36; refine (spUse_nil _ _).mono ?_; rintro e w' ⟨rfl, rfl⟩)
    | (go_at_call 28; refine (spGive_nil _ _).mono ?_; rintro e w' ⟨rfl, rfl⟩)
    | (go_at_call 41; refine (spUsed_nil _ _).mono ?_; rintro e w' ⟨rfl, rfl⟩)
    | (go_at_call 31; refine (spFree_nil _).mono ?_; rintro e w' ⟨rfl, rfl⟩)
    | (go_at_call 26; refine (spGen_nil _).mono ?_; rintro e w' ⟨rfl, rfl⟩))
  go_ret
  exact ⟨rfl, hm⟩
theorem readables_spaceNone : ∀ t ∈ (#[3] : Array TypeId).toList, Tryd.prog.readableRec t = true ∧ t < Tryd.prog.types.size := by
  intro t ht
  simp only [List.mem_cons, List.not_mem_nil, or_false] at ht
  rcases ht with rfl
  all_goals exact ⟨by kernel_rfl, of_decide_eq_true (by kernel_rfl)⟩
theorem standIns_spaceNone (j : Nat) (t : TypeId) (ht : (#[3] : Array TypeId)[j]? = some t) : Tryd.pinned.checked.prog.wantsStandIn t = false := by
  have hm := Array.mem_of_getElem? ht
  simp only [List.mem_toArray, List.mem_cons, List.not_mem_nil, or_false] at hm
  rcases hm with rfl
  · exact (show Tryd.prog.wantsStandIn 3 = false by kernel_rfl)

theorem spaceNone_contract (H : Type) (enc : TypeId × Value → H) (W : World) (base : Nat) (args : Array Value) (ds gs : List (DataW H)) (before : List MemPlace)
    (hval : ∀ (j : Nat) t v, Tryd.f10.params[j]? = some t → args[j]? = some v → Value.okWide Tryd.prog W .any base t v)
    (hW : DataW.Whole enc Tryd.prog Tryd.f10.params.toList Rows.spaceNoneSpec.vars false W args.toList ds gs before) (hL : laidMetH Tryd.prog laidVars W) :
    Calls Tryd.prog 10 args W fun e W' => ∃ v, e = .returned v ∧ Rows.spaceNoneSpec.post enc Tryd.prog Tryd.f10 false true false false W args v W' := by
  have hW' := hW
  obtain ⟨p, q, hA0, hV, he, hfz, hnd⟩ := hW
  have hA : DataW.TrodAll enc Tryd.prog W 0 (fun _ => true) true Tryd.f10.params.toList args.toList ds p := hA0
  rw [Tryd.params10] at hA hval
  obtain ⟨v0, vs0, d0, ds0, p0, q0, hargs, rfl, rfl, h0, r0⟩ := trodAll_cons hA
  obtain ⟨rfl, rfl, rfl⟩ := trodAll_nil r0
  obtain rfl : args = #[v0] := by cases args; simp_all
  obtain ⟨k, rfl, rfl, rfl, wk⟩ := open_int Tryd.underlying3 (hval 0 3 v0 rfl rfl) h0
  refine (spaceNone_walk k W (tab_of_laid hL)).mono fun e W' ⟨he', hm⟩ => ?_
  subst he'
  exact ⟨_, rfl, post_law laidOut (by rw [Tryd.params10]; exact readables_spaceNone) (by rfl) Tryd.underlying4 rfl rfl hW' hm.below⟩

theorem spaceNone_reads (os : Os) {H : Type} (enc : TypeId × Value → H) : ∃ places, DataW.whole enc Tryd.prog ((laidWorld os).forCall (fun _ _ => 0) ⟨#[], #[.int .i64 0], []⟩).memory Tryd.f10.params.toList Rows.spaceNoneSpec.vars false (#[.int .i64 0] : Array Value).toList 8 = some ([.lit (.int .i64 0)], [], places) :=
  ⟨[], by kernel_rfl⟩

set_option maxRecDepth 100000 in
theorem spaceNone_lifted (os : Os) (started : os.Started) (H : Type) (enc : TypeId × Value → H) (F : Stop.Interp) :
    ReturnsInHanded {} Tryd.checked os 10 .any ((OpenSpec.ofChange Rows.spaceNoneSpec).preRow enc Tryd.prog Tryd.f10 Rows.spaceNoneRow.domain false Rows.spaceNoneRow.laid) (((OpenSpec.ofChange Rows.spaceNoneSpec).at F).post enc Tryd.prog Tryd.f10 false true false false) := by
  obtain ⟨places, hx⟩ := spaceNone_reads os enc
  refine returnsInHanded_of_row (C := Tryd.checked) (s := OpenSpec.ofChange Rows.spaceNoneSpec) own started (by kernel_rfl) Tryd.func10
    (witness_row_at (enc := enc) (C := Tryd.checked) false (laidWorld os) #[.int .i64 0] rfl (by kernel_rfl) (by kernel_rfl) (by kernel_rfl)
      (OpenSpec.preRow_of_cond 8 hx (by kernel_rfl) (fun k hk => by cases hk) (by kernel_rfl) (laid_met os _))) ?_
  intro W base args ds gs before hval hW _ _ _ hL _ _
  exact spaceNone_contract H enc W base args ds gs before hval hW hL

theorem spaceNone_said : Rows.SpaceNoneSaid :=
  OpenClaim.holds_of_cond 10 Tryd.f10 rfl rfl rfl rfl rfl rfl rfl ⟨rfl, rfl, rfl, rfl, rfl⟩ rfl rfl rfl rfl rfl (by kernel_rfl) Tryd.func10 (by kernel_rfl)
    (of_decide_eq_true (by kernel_rfl)) (by unfold Func.isWrapper; first | (rw [if_pos (by decide +kernel)]; kernel_rfl) | (rw [if_neg (by decide +kernel)]; exact ⟨rfl, rfl⟩))
    (fun os started H enc _ F => by rw [OpenClaim.pre_eq_preRow]; exact spaceNone_lifted os started H enc F)

theorem spaceNone_plain (f : FuncId) (fn : Func) (hf : Tryd.pinned.checked.prog.funcNamed "treenail/treenaillaw10.SpaceNone" = some f) (hfn : Tryd.pinned.checked.prog.funcs[f]? = some fn) :
    false = Tryd.pinned.checked.prog.looks [] ∧ ∀ (j : Nat) t, fn.params[j]? = some t → Tryd.pinned.checked.prog.wantsStandIn t = false := by
  obtain rfl : f = 10 := Option.some.inj ((show Tryd.prog.funcNamed "treenail/treenaillaw10.SpaceNone" = some 10 by kernel_rfl).symm.trans hf) |>.symm
  obtain rfl : fn = Tryd.f10 := (Option.some.inj (Tryd.func10.symm.trans hfn)).symm
  refine ⟨by kernel_rfl, fun j t ht => ?_⟩
  rw [Tryd.params10] at ht
  exact standIns_spaceNone j t ht

/-- The card. -/
theorem spaceNone_card : Rows.SpaceNoneCardSaid :=
  Claim7.holds_tied_plain_at .later [] _ _ _ _ spaceNone_said (fun _ h => by cases h) (by kernel_rfl) (fun _ h => by cases h) spaceNone_row_tie rfl ⟨rfl, rfl⟩ (by kernel_rfl) rfl spaceNone_plain (by kernel_rfl)
end Go.Proofs.YtahaecieklfhkaaDoor
