/- ModelNone: whatever the key and the number, the law answers true: of a nil model nothing is told. No condition but the form's own. -/
import Derived.Test.YtahaecieklfhkaaOwn
import Derived.Test.YtahaecieklfhkaaModel7
namespace Go.Proofs.Ytahaecieklfhkaa
open Go.ChangeShapes Go.WideShapes Go.ChangeAt Go.RowKit

set_option maxRecDepth 100000 in
set_option maxHeartbeats 1600000 in
theorem modelNone_walk (key : ByteArray) (most : Int) (w : World) :
    Calls Try.prog 9 #[.string key, .int .i64 most] w fun e w' => e = .returned (.bool true) ∧ Mods [] w w' := by
  go_enter Try.func9, Try.ntmps9
  go_wp2_with fail
  refine (mGet_nil _ _).mono ?_
  rintro x w1 ⟨rfl, rfl⟩
  go_wp2_with fail
  refine (w28_any _).mono ?_
  rintro x w2 ⟨rfl, hm2⟩
  have HM2 := Lib.hid hm2
  clear hm2
  go_wp2_with fail
  refine (mUpdate_nil ⟨1, ⟨#[107]⟩, ⟨#[]⟩, 0⟩ _).mono ?_
  rintro x w3 ⟨rfl, hm3⟩
  have HM3 := Lib.hid (HM2.out.trans hm3 (by simp))
  clear hm3
  go_wp2_with fail
  refine (mScan_nil _ _ _ _).mono ?_
  rintro x w4 ⟨rfl, rfl⟩
  go_wp2_with fail
  refine (mLen_nil _).mono ?_
  rintro x w4 ⟨rfl, rfl⟩
  go_wp2_with fail
  refine (mCopy_nil _).mono ?_
  rintro x w4 ⟨rfl, rfl⟩
  go_wp2_with fail
  go_ret
  exact ⟨rfl, HM3.out⟩
theorem readables_modelNone : ∀ t ∈ (#[9, 3] : Array TypeId).toList, Try.prog.readableRec t = true ∧ t < Try.prog.types.size := by
  intro t ht
  simp only [List.mem_cons, List.not_mem_nil, or_false] at ht
  rcases ht with rfl | rfl
  all_goals exact ⟨by kernel_rfl, of_decide_eq_true (by kernel_rfl)⟩

set_option maxRecDepth 100000 in
theorem modelNone_contract (H : Type) (enc : TypeId × Value → H) (W : World) (base : Nat) (args : Array Value) (ds gs : List (DataW H)) (before : List MemPlace)
    (hval : ∀ (j : Nat) t v, Try.f9.params[j]? = some t → args[j]? = some v → Value.okWide Try.prog W .any base t v)
    (hW : DataW.Whole enc Try.prog Try.f9.params.toList Rows.modelNoneSpec.vars false W args.toList ds gs before) :
    Calls Try.prog 9 args W fun e W' => ∃ v, e = .returned v ∧ Rows.modelNoneSpec.post enc Try.prog Try.f9 false true false false W args v W' := by
  have hW' := hW
  obtain ⟨p, q, hA0, hV, he, hfz, hnd⟩ := hW
  have hA : DataW.TrodAll enc Try.prog W 0 (fun _ => true) true Try.f9.params.toList args.toList ds p := hA0
  rw [Try.params9] at hA hval
  obtain ⟨v0, vs0, d0, ds0, p0, q0, hargs, rfl, rfl, h0, r0⟩ := trodAll_cons hA
  obtain ⟨v1, vs1, d1, ds1, p1, q1, rfl, rfl, rfl, h1, r1⟩ := trodAll_cons r0
  obtain ⟨rfl, rfl, rfl⟩ := trodAll_nil r1
  obtain rfl : args = #[v0, v1] := by cases args; simp_all
  obtain ⟨key, rfl, rfl, rfl, wkey⟩ := ChangeMaps.open_string Try.underlying9 (hval 0 9 v0 rfl rfl) h0
  obtain ⟨most, rfl, rfl, rfl, wmost⟩ := open_int Try.underlying3 (hval 1 3 v1 rfl rfl) h1
  refine (modelNone_walk key most W).mono fun e W' ⟨he', hm⟩ => ?_
  subst he'
  exact ⟨_, rfl, post_law laidOut (by rw [Try.params9]; exact readables_modelNone) (by rfl) Try.underlying4 rfl rfl hW' hm.below⟩

set_option maxRecDepth 100000 in
theorem modelNone_lifted (os : Os) (started : os.Started) (H : Type) (enc : TypeId × Value → H) :
    ReturnsInHanded {} Try.checked os 9 .any (Rows.modelNoneSpec.pre6 enc Try.prog Try.f9 Rows.modelNoneRow.domain false) (Rows.modelNoneSpec.post enc Try.prog Try.f9 false true false false) := by
  refine returnsInHanded_of_change (C := Try.checked) own started (by kernel_rfl) Try.func9
    (ChangeSpec.witness6 (enc := enc) (C := Try.checked) false ⟨#[], #[.string ⟨#[]⟩, .int .i64 0], []⟩ 8 (by kernel_rfl) (by kernel_rfl) (by kernel_rfl) (by kernel_rfl)) ?_
  intro W base args ds gs before hval hW _ _
  exact modelNone_contract H enc W base args ds gs before hval hW

/-- The law. -/
theorem modelNone_said : Rows.ModelNoneSaid :=
  OpenClaim.holds_of_wide 9 Try.f9 rfl rfl rfl rfl rfl rfl rfl ⟨rfl, rfl, rfl, rfl, rfl⟩ rfl rfl rfl rfl rfl (by kernel_rfl) Try.func9 (by kernel_rfl)
    (of_decide_eq_true (by kernel_rfl)) (by unfold Func.isWrapper; first | (rw [if_pos (by decide +kernel)]; kernel_rfl) | (rw [if_neg (by decide +kernel)]; exact ⟨rfl, rfl⟩))
    (fun os started H enc _ => modelNone_lifted os started H enc)
end Go.Proofs.Ytahaecieklfhkaa
