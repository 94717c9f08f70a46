/- SilverRefuses: devices that may not stand there, steps of nothing, or without a replaced one, and nil ones, are refused; for every input, the two tables of math/bits being what their text lays. -/
import Derived.Test.YtkjpdfomppjiiaaGreatDoorCards
import Derived.Test.YtkjpdfomppjiiaaGreatDoorTie
import Derived.Test.YtkjpdfomppjiiaaGreatDoorKBit
import Derived.Test.YtkjpdfomppjiiaaGreatDoorKG
import Derived.ProofKit
import Derived.OpenShut
import Derived.Deep.DeepHandedRow
import Derived.Lib.LaidTab
import Derived.LaidSub
import Derived.Test.YtkjpdfomppjiiaaGreatDoorKLb
/- What the cards of a seat of stores have alike: the table that the rows list, and a world for the witness. -/
namespace Go.Proofs.YtkjpdfomppjiiaaGreatDoor
open Go.ChangeShapes Go.WideShapes Go.ChangeAt Go.RowKit

theorem gTab : Tryz.prog.globalNamed "math/bits.deBruijn64tab" = some 2 := by kernel_rfl
theorem gTabType : (Tryz.prog.globals[2]?).map (·.type) = some 426 := by kernel_rfl
theorem cellsArr64 : Tryz.prog.cellsOf 426 = 64 := by kernel_rfl

def laidVars : List (String × DataW Unit) := [("math/bits.deBruijn32tab", Rows.laid_math_bits_deBruijn32tab), ("math/bits.deBruijn64tab", Rows.laid_math_bits_deBruijn64tab)]

theorem tab_of_laid {W : World} (h : laidMetH Tryz.prog laidVars W) : DbTab W := by
 have h1 := h.filter (fun x => x.1 == "math/bits.deBruijn64tab")
 have h2 : laidMet Tryz.prog [("math/bits.deBruijn64tab", Rows.laid_math_bits_deBruijn64tab)] W := h1
 have h3 : Lib.TabIs Tryz.prog W "math/bits.deBruijn64tab" .u8 (Lib.deBruijn64tab.map (fun (n : Nat) => (n : Int))) :=
  Lib.tabIs_of_head (rest := []) gTab gTabType Tryz.underlying426 Tryz.underlying5 cellsU8 cellsArr64 h2
 have hlen : Lib.deBruijn64tab.length = 64 := by decide
 intro j hj
 have := h3.cell gTab j (by simp [hlen]; exact hj)
 rw [this]
 congr 2
 have hjl : j < Lib.deBruijn64tab.length := by rw [hlen]; exact hj
 simp [List.getD_eq_getElem?_getD, hjl]

def layTab (l : List Nat) (o : Obj) : Obj :=
 match o with
 | .cells _ t frozen => .cells (l.map (fun (n : Nat) => Value.int .u8 (n : Int))).toArray t frozen
 | o => o
noncomputable def laidWorld (os : Os) : World :=
 { World.holding Tryz.prog os ⟨#[], #[], []⟩ with heap := ((World.holding Tryz.prog os ⟨#[], #[], []⟩).heap.modify 1 (layTab Lib.deBruijn32tab)).modify 2 (layTab Lib.deBruijn64tab) }
theorem laid_met (os : Os) (args : Array Value) : laidMet Tryz.prog laidVars ((laidWorld os).forCall (fun _ _ => 0) ⟨#[], args, []⟩).memory :=
 laidMet_of_run' 8 (by kernel_rfl) (by kernel_rfl)
end Go.Proofs.YtkjpdfomppjiiaaGreatDoor
namespace Go.Proofs.YtkjpdfomppjiiaaGreatDoor
open Go.RowKit Go.ChangeShapes Go.WideShapes Go.ChangeAt

theorem readables_silverRefuses : ∀ t ∈ (#[3, 3, 3] : Array TypeId).toList, Tryz.prog.readableRec t = true ∧ t < Tryz.prog.types.size := by
 intro t ht
 simp only [List.mem_cons, List.not_mem_nil, or_false] at ht
 rcases ht with rfl | rfl | rfl
 all_goals exact ⟨by kernel_rfl, of_decide_eq_true (by kernel_rfl)⟩
theorem standIns_silverRefuses (j : Nat) (t : TypeId) (ht : (#[3, 3, 3] : Array TypeId)[j]? = some t) : Tryz.pinned.checked.prog.wantsStandIn t = false := by
 have hm := Array.mem_of_getElem? ht
 simp only [List.mem_toArray, List.mem_cons, List.not_mem_nil, or_false] at hm
 rcases hm with rfl | rfl | rfl
 ·exact (show Tryz.prog.wantsStandIn 3 = false by kernel_rfl)
 ·exact (show Tryz.prog.wantsStandIn 3 = false by kernel_rfl)
 ·exact (show Tryz.prog.wantsStandIn 3 = false by kernel_rfl)

set_option maxRecDepth 100000 in
theorem silverRefuses_contract (H : Type) (enc : TypeId × Value → H) (W : World) (base : Nat) (args : Array Value) (ds gs : List (DataW H)) (before : List MemPlace)
  (hval : ∀ (j : Nat) t v, Tryz.f3.params[j]? = some t → args[j]? = some v → Value.okWide Tryz.prog W .any base t v)
  (hW : DataW.Whole enc Tryz.prog Tryz.f3.params.toList Rows.silverRefusesSpec.vars false W args.toList ds gs before) (hL : laidMetH Tryz.prog laidVars W) :
  Calls Tryz.prog 3 args W fun e W' => ∃ v, e = .returned v ∧ Rows.silverRefusesSpec.post enc Tryz.prog Tryz.f3 false true false false W args v W' := by
 have hW' := hW
 obtain ⟨p, q, hA0, hV, he, hfz, hnd⟩ := hW
 have hA : DataW.TrodAll enc Tryz.prog W 0 (fun _ => true) true Tryz.f3.params.toList args.toList ds p := hA0
 rw [Tryz.params3] at hA hval
 obtain ⟨v0, vs0, d0, ds0, p0, q0, hargs, rfl, rfl, h0, r0⟩ := trodAll_cons hA
 obtain ⟨v1, vs1, d1, ds1, p1, q1, rfl, rfl, rfl, h1, r1⟩ := trodAll_cons r0
 obtain ⟨v2, vs2, d2, ds2, p2, q2, rfl, rfl, rfl, h2, r2⟩ := trodAll_cons r1
 obtain ⟨rfl, rfl, rfl⟩ := trodAll_nil r2
 obtain rfl : args = #[v0, v1, v2] := by cases args; simp_all
 obtain ⟨side, rfl, rfl, rfl, wside⟩ := open_int Tryz.underlying3 (hval 0 3 v0 rfl rfl) h0
 obtain ⟨k, rfl, rfl, rfl, wk⟩ := open_int Tryz.underlying3 (hval 1 3 v1 rfl rfl) h1
 obtain ⟨sectors, rfl, rfl, rfl, wsectors⟩ := open_int Tryz.underlying3 (hval 2 3 v2 rfl rfl) h2
 refine (SilverRefuses_walk (tab_of_laid hL) side k sectors).mono fun e W' ⟨he', hm⟩ => ?_
 subst he'
 exact ⟨_, rfl, post_law laidOut (by rw [Tryz.params3]; exact readables_silverRefuses) (by rfl) Tryz.underlying4 rfl rfl hW' hm.below⟩

theorem silverRefuses_reads (os : Os) {H : Type} (enc : TypeId × Value → H) : ∃ places, DataW.whole enc Tryz.prog ((laidWorld os).forCall (fun _ _ => 0) ⟨#[], #[.int .i64 0, .int .i64 0, .int .i64 0], []⟩).memory Tryz.f3.params.toList Rows.silverRefusesSpec.vars false (#[.int .i64 0, .int .i64 0, .int .i64 0] : Array Value).toList 8 = some ([.lit (.int .i64 0), .lit (.int .i64 0), .lit (.int .i64 0)], [], places) :=
 ⟨[], by kernel_rfl⟩

set_option maxRecDepth 100000 in
theorem silverRefuses_lifted (os : Os) (started : os.Started) (H : Type) (enc : TypeId × Value → H) (F : Stop.Interp) :
  ReturnsInHanded {} Tryz.checked os 3 .any ((OpenSpec.ofChange Rows.silverRefusesSpec).preRow enc Tryz.prog Tryz.f3 Rows.silverRefusesRow.domain false Rows.silverRefusesRow.laid) (((OpenSpec.ofChange Rows.silverRefusesSpec).at F).post enc Tryz.prog Tryz.f3 false true false false) := by
 obtain ⟨places, hx⟩ := silverRefuses_reads os enc
 refine returnsInHanded_of_row (C := Tryz.checked) (s := OpenSpec.ofChange Rows.silverRefusesSpec) own started (by kernel_rfl) Tryz.func3
  (witness_row_at (enc := enc) (C := Tryz.checked) false (laidWorld os) #[.int .i64 0, .int .i64 0, .int .i64 0] rfl (by kernel_rfl) (by kernel_rfl) (by kernel_rfl)
   (OpenSpec.preRow_of_cond 8 hx (by kernel_rfl) (fun k hk => by cases hk) (by kernel_rfl) (laid_met os _))) ?_
 intro W base args ds gs before hval hW _ _ _ hL _ _
 exact silverRefuses_contract H enc W base args ds gs before hval hW hL

set_option maxHeartbeats 16000000 in
theorem silverRefuses_closed : joinedFacts Tryz.pinned.checked.prog 3 Tryz.f3 (OpenSpec.ofChange Rows.silverRefusesSpec).bare Rows.silverRefusesRow = true := by
 unfold joinedFacts
 simp only [Bool.and_eq_true]
 repeat' apply And.intro
 all_goals as_aux_lemma => kernel_rfl
theorem silverRefuses_inst : Tryz.f3.isInstance Tryz.pinned.checked.prog Rows.silverRefusesRow.origin Rows.silverRefusesRow.targs := of_decide_eq_true (by kernel_rfl)
theorem silverRefuses_wrap : Tryz.f3.isWrapper Tryz.pinned.checked.prog Rows.silverRefusesRow.wrapper Rows.silverRefusesRow.mainSum := by unfold Func.isWrapper; first | (rw [if_pos (by decide +kernel)]; kernel_rfl) | (rw [if_neg (by decide +kernel)]; exact ⟨rfl, rfl⟩)
theorem silverRefuses_said : Rows.SilverRefusesSaid :=
 OpenClaim.holds_of_cond 3 Tryz.f3 rfl rfl rfl rfl rfl rfl rfl ⟨rfl, rfl, rfl, rfl, rfl⟩ rfl rfl rfl rfl rfl (by as_aux_lemma => kernel_rfl) Tryz.func3 silverRefuses_closed
  silverRefuses_inst silverRefuses_wrap
  (fun os started H enc _ F => by rw [OpenClaim.pre_eq_preRow]; exact silverRefuses_lifted os started H enc F)

theorem silverRefuses_plain (f : FuncId) (fn : Func) (hf : Tryz.pinned.checked.prog.funcNamed "treenail/treenaillaw25.SilverRefuses" = some f) (hfn : Tryz.pinned.checked.prog.funcs[f]? = some fn) :
  true = Tryz.pinned.checked.prog.looks [] ∧ ∀ (j : Nat) t, fn.params[j]? = some t → Tryz.pinned.checked.prog.wantsStandIn t = false := by
 obtain rfl : f = 3 := Option.some.inj ((show Tryz.prog.funcNamed "treenail/treenaillaw25.SilverRefuses" = some 3 by kernel_rfl).symm.trans hf) |>.symm
 obtain rfl : fn = Tryz.f3 := (Option.some.inj (Tryz.func3.symm.trans hfn)).symm
 refine ⟨by kernel_rfl, fun j t ht => ?_⟩
 rw [Tryz.params3] at ht
 exact standIns_silverRefuses j t ht

theorem silverRefuses_wfText : Rows.silverRefusesRow.wfByText (OpenSpec.ofChange Rows.silverRefusesSpec) = true := by kernel_rfl
theorem silverRefuses_goes : false = Rows.silverRefusesRow.goesBy Tryz.pinned.checked.prog := by kernel_rfl
theorem silverRefuses_card : Rows.SilverRefusesCardSaid :=
 Claim7.holds_tied_plain_at .later [] _ _ _ _ silverRefuses_said (fun _ h => by cases h) silverRefuses_wfText (fun _ h => by cases h) silverRefuses_row_tie rfl ⟨rfl, rfl⟩ (by as_aux_lemma => kernel_rfl) rfl silverRefuses_plain silverRefuses_goes
end Go.Proofs.YtkjpdfomppjiiaaGreatDoor
