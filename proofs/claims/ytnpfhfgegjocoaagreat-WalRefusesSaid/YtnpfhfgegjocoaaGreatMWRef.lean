/- WalRefuses: whatever the ring is, the law answers true. No condition but the form's own. -/
import Derived.Test.YtnpfhfgegjocoaaGreatMWalo
import Derived.Test.YtnpfhfgegjocoaaGreatMG
import Derived.Test.YtnpfhfgegjocoaaGreatMA
import Derived.OpenShut
import Derived.Outline
namespace Go.Proofs.YtnpfhfgegjocoaaGreat
open Go.ChangeShapes Go.WideShapes Go.ChangeAt Go.RowKit

theorem arr2_open {H : Type} {enc : TypeId × Value → H} {P : Program} {W : World} {t e : TypeId} {q : IntKind} {base : Nat} {v : Value} {d : DataW H} {p : List MemPlace} (ht : P.underlying t = some (.array 2 e)) (he : P.underlying e = some (.int q))
    (ct : P.cellsOf t = 2) (ce : P.cellsOf e = 1) (hv : Value.okWide P W .any base t v) (hj : DataW.Trod enc P W 0 (fun _ => true) true t v d p) :
    ∃ a b : Int, v = .agg #[.int q a, .int q b] ∧ d = .agg [.lit (.int q a), .lit (.int q b)] ∧ p = [] ∧ (Lit.int q a).wf = true ∧ (Lit.int q b).wf = true := by
  simp only [Value.okWide, ht] at hv
  obtain ⟨cs, rfl, hsz, _⟩ := hv
  rw [ct] at hsz
  obtain ⟨l⟩ := cs
  obtain ⟨c0, c1, rfl⟩ : ∃ c0 c1, l = [c0, c1] := by
    match l, hsz with
    | [c0, c1], _ => exact ⟨c0, c1, rfl⟩
  obtain ⟨fuel, hf⟩ := hj
  obtain ⟨xs, m, rfl, hx, _, hl, hg⟩ := DataW.trod_array ht hf
  have g0 := hg 0 (by omega)
  have g1 := hg 1 (by omega)
  rw [ce] at g0 g1
  simp [Value.cells] at g0 g1
  obtain ⟨y0, y1, rfl⟩ : ∃ y0 y1, xs = [y0, y1] := by
    match xs, hl with
    | [y0, y1], _ => exact ⟨y0, y1, rfl⟩
  simp at g0 g1
  obtain ⟨a, ea, rfl, wa⟩ := DataW.trod_int he g0
  obtain ⟨b, eb, rfl, wb⟩ := DataW.trod_int he g1
  simp at ea eb
  subst ea eb
  simp only [Prod.mk.injEq] at hx
  obtain ⟨rfl, rfl⟩ := hx
  exact ⟨a, b, rfl, rfl, rfl, wa, wb⟩
/-- Open by whatever ring. -/
theorem openAny {W w : World} {x : Nat → Nat} {b p : Nat} {M : Mi} (h : OwnM W [] w b p x M) (hw : WSt 0 M (fun _ => bA (zerosL 192))) (_hr : M.reps = 0) (x0 x1 : Int) :
    Calls Tryz.prog 48 #[.pointer (some ⟨b, 0, none⟩), .agg #[.int .i64 x0, .int .i64 x1], .int .u64 0, .int .u32 0] w fun e w' => ∃ lv sv, e = .returned (.tuple #[lv, sv, .int .i64 (ringE 16 x0 x1 : Nat)]) ∧ Hid (Mods [] W w') := by
  by_cases he : ringE 16 x0 x1 = 0
  · rw [he]
    unfold ringE at he
    split at he
    · cases he
    · rename_i hc
      obtain ⟨f, rfl⟩ : ∃ f : Nat, x0 = (f : Int) := ⟨x0.toNat, by omega⟩
      obtain ⟨k, rfl⟩ : ∃ k : Nat, x1 = (k : Int) := ⟨x1.toNat, by omega⟩
      have hok : LogE.Ok ⟨f, k, 0, 0, 0⟩ := ⟨by show f ≤ 5000; omega, by show 2 ≤ k; omega, by show k ≤ 256; omega, by show 0 < 18446744073709551616; decide, by show 0 < 4294967296; decide, Nat.zero_le _⟩
      have hblk : (⟨f, k, 0, 0, 0⟩ : LogE).block 0 < 16 := by
        show f + 0 % k < 16
        rw [Nat.zero_mod]
        omega
      have hop : Opens 16 192 M ⟨f, k, 0, 0, 0⟩ [] M ⟨f, k, 0, 0, 0⟩ := by
        refine ⟨rfl, rfl, .inr ⟨by show 0 < k; omega, 0, hw.fine, by decide, fun y hy => ?_⟩⟩
        change y ∈ M.imgs ((⟨f, k, 0, 0, 0⟩ : LogE).block 0) at hy
        rw [hw.imgs hblk] at hy
        have hn : NoRec ⟨f, k, 0, 0, 0⟩ (bA (zerosL 192)) := .inl (by rw [bA_list]; exact open_zeros 192)
        rcases List.mem_cons.1 hy with rfl | hy
        · exact hn
        · rw [List.mem_singleton.1 hy]; exact hn
      refine (lgOpen_any h hw.fine (by decide) hok rfl (by unfold ringE; rw [if_neg hc]) hop).mono fun e w' ⟨lb, tk, A, cap, h1, h2, _, _⟩ => ?_
      obtain ⟨F', K, rb, base, h3, _⟩ := h2.out
      exact ⟨_, _, h1, Lib.hid h3.lg.own.mods⟩
  · exact (lgOpen_no (s := 0) (h := 0) h hw.fine (by decide) rfl he).mono fun e w' ⟨h1, h2⟩ => ⟨_, _, h1, Lib.hid (h.mods.trans h2.out (by simp))⟩
set_option maxRecDepth 100000 in
set_option maxHeartbeats 6400000 in
theorem walRefuses_walk (x0 x1 : Int) (W : World) : Calls Tryz.prog 10 #[.agg #[.int .i64 x0, .int .i64 x1]] W fun e w' => e = .returned (.bool true) ∧ Mods [] W w' := by
  obtain ⟨w0, hw0⟩ : ∃ w0, W.alloc (.cells #[.int .i64 x0, .int .i64 x1] 98) = w0 := ⟨_, rfl⟩
  obtain ⟨xb, hxb⟩ : ∃ xb, W.heap.size = xb := ⟨_, rfl⟩
  have HM0 : Hid (Mods [] W w0) := Lib.hid (by rw [← hw0]; exact (Mods.refl _ _).alloc _)
  have HX0 : Hid (Blk w0 xb 98 [.int .i64 x0, .int .i64 x1]) := Lib.hid (by rw [← hw0, ← hxb]; exact Blk.new W 98 _)
  go_enter Tryz.func10, Tryz.ntmps10
  go_upto_region 1 with fail
  try rw [hw0, hxb]
  clear hw0
  go_upto_region 2 with (go_at_call 47; refine w13Fresh_any.mono ?_; rintro e w1 ⟨x, p, b, M, rfl, HO, HG⟩)
  obtain ⟨w2, hw2⟩ : ∃ w2, w1.alloc (.cells #[.pointer (some ⟨x 0, 0, none⟩), .pointer (some ⟨x 1, 0, none⟩)] 50) = w2 := ⟨_, rfl⟩
  have hm2 : Mods [] w1 w2 := by rw [← hw2]; exact (Mods.refl _ _).alloc _
  have HX2 := Lib.hid ((HX0.out.keep HO.out.mods (by simp)).keep hm2 (by simp))
  have HMW := Lib.hid (HM0.out.trans HO.out.mods (by simp))
  have cO := Lib.hid (openAny (HO.out.still hm2) (WSt.fresh HG.out) HG.out.reps x0 x1)
  have HX := HX2.out
  have c0 := HX.cell (i := 0) rfl
  have c1 := HX.cell (i := 1) rfl
  rw [hw2]
  clear hw2 hm2 HX HX2
  go_upto_region 3 with (go_at_call 48; refine cO.out.mono ?_; rintro e w3 ⟨lv, sv, rfl, HM3⟩)
  have HM03 := Lib.hid (HM0.out.trans HM3.out (by simp))
  have HX3 := Lib.hid (HX0.out.keep HM3.out (by simp))
  obtain ⟨en, hen⟩ : ∃ en, ringE 16 x0 x1 = en := ⟨_, rfl⟩
  rw [hen]
  clear c0 c1 cO HX0 HO HG HM0 HM3 HMW
  have d0 := HX3.out.cell (i := 0) rfl
  have d1 := HX3.out.cell (i := 1) rfl
  go_cut [9] from 35 to 60 (fun mv wx => mv = .bool (decide (en = 0)) ∧ Hid (Mods [] w3 wx))
  case first =>
    have key : en = if x1 < 2 ∨ 256 < x1 ∨ x0 < 0 ∨ 16 < x0 ∨ 16 - x0 < x1 then 2 else 0 := by rw [← hen]; rfl
    clear hen
    by_cases h1 : 2 ≤ x1
    · by_cases h2 : x1 ≤ 256
      · by_cases h3 : 0 ≤ x0
        · by_cases h4 : x0 ≤ 16
          · have hw1 : IntKind.i64.wrap (16 - x0) = 16 - x0 := by rw [IntKind.wrap_i64]; omega
            have hw2 : wrap64 (16 - x0) = 16 - x0 := by unfold wrap64; omega
            by_cases h5 : x1 ≤ 16 - x0
            · have he : en = 0 := by rw [key, if_neg (by omega)]
              clear key
              go_wp2_with fail
              go_meet
              exact ⟨by rw [he]; simp, Lib.hid (Mods.refl _ _)⟩
            · have he : ¬ en = 0 := by rw [key, if_pos (by omega)]; decide
              clear key
              go_wp2_with fail
              go_meet
              exact ⟨by simp [he], Lib.hid (Mods.refl _ _)⟩
          · have he : ¬ en = 0 := by rw [key, if_pos (by omega)]; decide
            clear key
            go_wp2_with fail
            go_meet
            exact ⟨by simp [he], Lib.hid (Mods.refl _ _)⟩
        · have he : ¬ en = 0 := by rw [key, if_pos (by omega)]; decide
          clear key
          go_wp2_with fail
          go_meet
          exact ⟨by simp [he], Lib.hid (Mods.refl _ _)⟩
      · have he : ¬ en = 0 := by rw [key, if_pos (by omega)]; decide
        clear key
        go_wp2_with fail
        go_meet
        exact ⟨by simp [he], Lib.hid (Mods.refl _ _)⟩
    · have he : ¬ en = 0 := by rw [key, if_pos (by omega)]; decide
      clear key
      go_wp2_with fail
      go_meet
      exact ⟨by simp [he], Lib.hid (Mods.refl _ _)⟩
  case rest =>
    obtain ⟨rfl, HM4⟩ := hcut
    have he2 : en = 0 ∨ en = 2 := by
      rw [← hen]
      unfold ringE
      split
      · exact .inr rfl
      · exact .inl rfl
    clear hen
    have HMM := Lib.hid (HM03.out.trans HM4.out (by simp))
    rcases he2 with rfl | rfl
    · rw [show (decide ((0 : Nat) = 0)) = true from rfl]
      go_wp2_with (first
        | (go_at_call 49; refine w13Ring_any.mono ?_; rintro e w5 ⟨rfl, HM5⟩)
        | (go_at_call 48; refine (lgOpen_nil (s := 0) (h := 0)).mono ?_; rintro e w6 ⟨rfl, HM6⟩)
        | (go_at_call 50; refine lgNext_nil.mono ?_; rintro e w7 ⟨rfl, rfl⟩)
        | (go_at_call 51; refine lgCut_nil.mono ?_; rintro e w7 ⟨rfl, rfl⟩)
        | (go_at_call 52; refine w13Wakes_any.mono ?_; rintro e w8 ⟨rfl, HM8⟩)
        | (go_at_call 53; refine (lgApp_nil _).mono ?_; rintro e w9 ⟨rfl, rfl⟩)
        | (go_at_call 54; refine lgSync_nil.mono ?_; rintro e w9 ⟨rfl, rfl⟩)
        | (go_at_call 55; refine lgLeft_nil.mono ?_; rintro e w9 ⟨rfl, rfl⟩)
        | (go_at_call 56; refine lgRoom_nil.mono ?_; rintro e w9 ⟨rfl, rfl⟩)
        | fail)
      go_ret
      exact ⟨rfl, ((((HMM.out.trans HM5.out (by simp)).trans HM6.out (by simp)).trans HM8.out (by simp)).alloc _)⟩
    · rw [show (decide ((2 : Nat) = 0)) = false from rfl]
      go_wp2_with (first
        | (go_at_call 49; refine w13Ring_any.mono ?_; rintro e w5 ⟨rfl, HM5⟩)
        | (go_at_call 48; refine (lgOpen_nil (s := 0) (h := 0)).mono ?_; rintro e w6 ⟨rfl, HM6⟩)
        | (go_at_call 50; refine lgNext_nil.mono ?_; rintro e w7 ⟨rfl, rfl⟩)
        | (go_at_call 51; refine lgCut_nil.mono ?_; rintro e w7 ⟨rfl, rfl⟩)
        | (go_at_call 52; refine w13Wakes_any.mono ?_; rintro e w8 ⟨rfl, HM8⟩)
        | (go_at_call 53; refine (lgApp_nil _).mono ?_; rintro e w9 ⟨rfl, rfl⟩)
        | (go_at_call 54; refine lgSync_nil.mono ?_; rintro e w9 ⟨rfl, rfl⟩)
        | (go_at_call 55; refine lgLeft_nil.mono ?_; rintro e w9 ⟨rfl, rfl⟩)
        | (go_at_call 56; refine lgRoom_nil.mono ?_; rintro e w9 ⟨rfl, rfl⟩)
        | fail)
      go_ret
      exact ⟨rfl, ((((HMM.out.trans HM5.out (by simp)).trans HM6.out (by simp)).trans HM8.out (by simp)).alloc _)⟩
theorem readables_walRefuses : ∀ t ∈ (#[98] : Array TypeId).toList, Tryz.prog.readableRec t = true ∧ t < Tryz.prog.types.size := by
  intro t ht
  simp only [List.mem_cons, List.not_mem_nil, or_false] at ht
  rcases ht with rfl
  all_goals exact ⟨by kernel_rfl, of_decide_eq_true (by kernel_rfl)⟩

set_option maxRecDepth 100000 in
theorem walRefuses_contract (H : Type) (enc : TypeId × Value → H) (W : World) (base : Nat) (args : Array Value) (ds gs : List (DataW H)) (before : List MemPlace)
    (hval : ∀ (j : Nat) t v, Tryz.f10.params[j]? = some t → args[j]? = some v → Value.okWide Tryz.prog W .any base t v)
    (hW : DataW.Whole enc Tryz.prog Tryz.f10.params.toList Rows.walRefusesSpec.vars false W args.toList ds gs before) :
    Calls Tryz.prog 10 args W fun e W' => ∃ v, e = .returned v ∧ Rows.walRefusesSpec.post enc Tryz.prog Tryz.f10 false true false false W args v W' := by
  have hW' := hW
  obtain ⟨p, q, hA0, hV, he, hfz, hnd⟩ := hW
  have hA : DataW.TrodAll enc Tryz.prog W 0 (fun _ => true) true Tryz.f10.params.toList args.toList ds p := hA0
  rw [Tryz.params10] at hA hval
  obtain ⟨v0, vs0, d0, ds0, p0, q0, hargs, rfl, rfl, h0, r0⟩ := trodAll_cons hA
  obtain ⟨rfl, rfl, rfl⟩ := trodAll_nil r0
  obtain rfl : args = #[v0] := by cases args; simp_all
  obtain ⟨x0, x1, rfl, rfl, rfl, wx0, wx1⟩ := arr2_open Tryz.underlying98 Tryz.underlying3 (by kernel_rfl) (by kernel_rfl) (hval 0 98 v0 rfl rfl) h0
  refine (walRefuses_walk x0 x1 W).mono fun e W' ⟨he', hm⟩ => ?_
  subst he'
  exact ⟨_, rfl, post_law laidOut (by rw [Tryz.params10]; exact readables_walRefuses) (by rfl) Tryz.underlying4 rfl rfl hW' hm.below⟩

set_option maxRecDepth 100000 in
theorem walRefuses_lifted (os : Os) (started : os.Started) (H : Type) (enc : TypeId × Value → H) :
    ReturnsInHanded {} Tryz.checked os 10 .any (Rows.walRefusesSpec.pre6 enc Tryz.prog Tryz.f10 Rows.walRefusesRow.domain false) (Rows.walRefusesSpec.post enc Tryz.prog Tryz.f10 false true false false) := by
  refine returnsInHanded_of_change (C := Tryz.checked) own started (by kernel_rfl) Tryz.func10
    (ChangeSpec.witness6 (enc := enc) (C := Tryz.checked) false ⟨#[], #[.agg #[.int .i64 0, .int .i64 0]], []⟩ 8 (by kernel_rfl) (by kernel_rfl) (by kernel_rfl) (by kernel_rfl)) ?_
  intro W base args ds gs before hval hW _ _
  exact walRefuses_contract H enc W base args ds gs before hval hW

/-- The law. -/
theorem walRefuses_said : Rows.WalRefusesSaid :=
  OpenClaim.holds_of_wide 10 Tryz.f10 rfl rfl rfl rfl rfl rfl rfl ⟨rfl, rfl, rfl, rfl, rfl⟩ rfl rfl rfl rfl rfl (by kernel_rfl) Tryz.func10 (by kernel_rfl)
    (of_decide_eq_true (by kernel_rfl)) (by unfold Func.isWrapper; first | (rw [if_pos (by decide +kernel)]; kernel_rfl) | (rw [if_neg (by decide +kernel)]; exact ⟨rfl, rfl⟩))
    (fun os started H enc _ => walRefuses_lifted os started H enc)
end Go.Proofs.YtnpfhfgegjocoaaGreat
