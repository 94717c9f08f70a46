/- CacheNone: whatever the address, the generation and the text, the law answers true: of a nil cache nothing is told or kept. No condition but the form's own. -/
import Derived.Test.YtahaecieklfhkaaOwn
import Derived.Test.YtahaecieklfhkaaCache15
namespace Go.Proofs.Ytahaecieklfhkaa
open Go.ChangeShapes Go.WideShapes Go.ChangeAt Go.RowKit

set_option maxRecDepth 100000 in
set_option maxHeartbeats 1600000 in
theorem cacheNone_walk (a : Int) (g : Nat) (pl : ByteArray) (w : World) :
    Calls Try.prog 6 #[.int .i64 a, .int .u64 g, .string pl] w fun e w' => e = .returned (.bool true) ∧ Mods [] w w' := by
  go_enter Try.func6, Try.ntmps6
  go_wp2_with fail
  obtain ⟨w1, hw1⟩ : ∃ w1, w.alloc (.cells #[.int .i64 a, .int .u64 g, .int .u32 0] 53) = w1 := ⟨_, rfl⟩
  have hm1 : Mods [] w w1 := by rw [← hw1]; exact (Mods.refl _ _).alloc _
  have hB1 : Blk w1 w.heap.size 53 [.int .i64 a, .int .u64 g, .int .u32 0] := by rw [← hw1]; exact Blk.new w 53 _
  have HM1 := Lib.hid hm1
  have HB1 := Lib.hid hB1
  rw [hw1]
  clear hw1 hm1 hB1
  refine (cPut_nil w1 a g 0 _ _).mono ?_
  rintro x w2 ⟨rfl, hm2⟩
  have HM2 := Lib.hid (HM1.out.trans hm2 (by simp))
  have HB2 := Lib.hid (HB1.out.keep hm2 (by simp))
  clear hm2
  go_wp2_with fail
  refine (cDrop_nil w2 a).mono ?_
  rintro x w3 ⟨rfl, rfl⟩
  have b0 := HB2.out.cell (i := 0) rfl
  have b1 := HB2.out.cell (i := 1) rfl
  have b2 := HB2.out.cell (i := 2) rfl
  go_wp2_with fail
  refine (cGet_nil w2 a g 0).mono ?_
  rintro x w3 ⟨rfl, hm3⟩
  have HM3 := Lib.hid (HM2.out.trans hm3 (by simp))
  clear hm3 b0 b1 b2 HB1 HB2 HM1 HM2
  go_wp2_with fail
  refine (cCounts_nil w3).mono ?_
  rintro x w4 ⟨rfl, rfl⟩
  go_wp2_with fail
  refine (w11_any w3).mono ?_
  rintro x w4 ⟨rfl, hm4⟩
  have HM4 := Lib.hid (HM3.out.trans hm4 (by simp))
  clear hm4 HM3
  go_wp2_with fail
  refine (cList_nil w4).mono ?_
  rintro x w5 ⟨rfl, rfl⟩
  go_wp2_with fail
  go_ret
  exact ⟨by rfl, HM4.out⟩
theorem readables_cacheNone : ∀ t ∈ (#[3, 25, 9] : Array TypeId).toList, Try.prog.readableRec t = true ∧ t < Try.prog.types.size := by
  intro t ht
  simp only [List.mem_cons, List.not_mem_nil, or_false] at ht
  rcases ht with rfl | rfl | rfl
  all_goals exact ⟨by kernel_rfl, of_decide_eq_true (by kernel_rfl)⟩

set_option maxRecDepth 100000 in
theorem cacheNone_contract (H : Type) (enc : TypeId × Value → H) (W : World) (base : Nat) (args : Array Value) (ds gs : List (DataW H)) (before : List MemPlace)
    (hval : ∀ (j : Nat) t v, Try.f6.params[j]? = some t → args[j]? = some v → Value.okWide Try.prog W .any base t v)
    (hW : DataW.Whole enc Try.prog Try.f6.params.toList Rows.cacheNoneSpec.vars false W args.toList ds gs before) :
    Calls Try.prog 6 args W fun e W' => ∃ v, e = .returned v ∧ Rows.cacheNoneSpec.post enc Try.prog Try.f6 false true false false W args v W' := by
  have hW' := hW
  obtain ⟨p, q, hA0, hV, he, hfz, hnd⟩ := hW
  have hA : DataW.TrodAll enc Try.prog W 0 (fun _ => true) true Try.f6.params.toList args.toList ds p := hA0
  rw [Try.params6] at hA hval
  obtain ⟨v0, vs0, d0, ds0, p0, q0, hargs, rfl, rfl, h0, r0⟩ := trodAll_cons hA
  obtain ⟨v1, vs1, d1, ds1, p1, q1, rfl, rfl, rfl, h1, r1⟩ := trodAll_cons r0
  obtain ⟨v2, vs2, d2, ds2, p2, q2, rfl, rfl, rfl, h2, r2⟩ := trodAll_cons r1
  obtain ⟨rfl, rfl, rfl⟩ := trodAll_nil r2
  obtain rfl : args = #[v0, v1, v2] := by cases args; simp_all
  obtain ⟨addr, rfl, rfl, rfl, waddr⟩ := open_int Try.underlying3 (hval 0 3 v0 rfl rfl) h0
  obtain ⟨gen', rfl, rfl, rfl, wgen⟩ := open_int Try.underlying25 (hval 1 25 v1 rfl rfl) h1
  have bgen := bounds_u64 wgen
  obtain ⟨gen, rfl⟩ := Int.eq_ofNat_of_zero_le bgen.1
  obtain ⟨pl, rfl, rfl, rfl, wpl⟩ := ChangeMaps.open_string Try.underlying9 (hval 2 9 v2 rfl rfl) h2
  refine (cacheNone_walk addr gen pl W).mono fun e W' ⟨he', hm⟩ => ?_
  subst he'
  exact ⟨_, rfl, post_law laidOut (by rw [Try.params6]; exact readables_cacheNone) (by rfl) Try.underlying4 rfl rfl hW' hm.below⟩

set_option maxRecDepth 100000 in
theorem cacheNone_lifted (os : Os) (started : os.Started) (H : Type) (enc : TypeId × Value → H) :
    ReturnsInHanded {} Try.checked os 6 .any (Rows.cacheNoneSpec.pre6 enc Try.prog Try.f6 Rows.cacheNoneRow.domain false) (Rows.cacheNoneSpec.post enc Try.prog Try.f6 false true false false) := by
  refine returnsInHanded_of_change (C := Try.checked) own started (by kernel_rfl) Try.func6
    (ChangeSpec.witness6 (enc := enc) (C := Try.checked) false ⟨#[], #[.int .i64 0, .int .u64 0, .string ⟨#[]⟩], []⟩ 8 (by kernel_rfl) (by kernel_rfl) (by kernel_rfl) (by kernel_rfl)) ?_
  intro W base args ds gs before hval hW _ _
  exact cacheNone_contract H enc W base args ds gs before hval hW

/-- The law. -/
theorem cacheNone_said : Rows.CacheNoneSaid :=
  OpenClaim.holds_of_wide 6 Try.f6 rfl rfl rfl rfl rfl rfl rfl ⟨rfl, rfl, rfl, rfl, rfl⟩ rfl rfl rfl rfl rfl (by kernel_rfl) Try.func6 (by kernel_rfl)
    (of_decide_eq_true (by kernel_rfl)) (by unfold Func.isWrapper; first | (rw [if_pos (by decide +kernel)]; kernel_rfl) | (rw [if_neg (by decide +kernel)]; exact ⟨rfl, rfl⟩))
    (fun os started H enc _ => cacheNone_lifted os started H enc)
end Go.Proofs.Ytahaecieklfhkaa
