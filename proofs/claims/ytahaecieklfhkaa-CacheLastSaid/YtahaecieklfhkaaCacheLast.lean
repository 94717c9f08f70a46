/- CacheLast: whatever the bytes and the number, the law answers true: of blocks that are put one by one the last ones are found. No condition but the form's own. -/
import Derived.Test.YtahaecieklfhkaaOwn
import Derived.Test.YtahaecieklfhkaaLastC
import Derived.OwnWalk
namespace Go.Proofs.Ytahaecieklfhkaa
open Go.ChangeShapes Go.WideShapes Go.ChangeAt Go.RowKit

theorem info_int : (Try.prog.info? 3).map (fun i => (i.zero, i.size, i.bytes)) = some (some (.int .i64 0), 1, 8) := by kernel_rfl
set_option maxRecDepth 100000 in
set_option maxHeartbeats 6400000 in
theorem cacheLast_walk (A : Option Addr) (len cap : Nat) (zs : List Nat) (s : Nat) (w : World) (hr : Row w A (u8sOf zs)) (hz : zs.length = len) (hlc : len ≤ cap) (hcm : cap ≤ maxLen) (hb : ∀ z ∈ zs, z < 256) :
    Calls Try.prog 4 #[.slice A len cap, .int .u8 s] w fun e w' => e = .returned (.bool true) ∧ Mods [] w w' := by
  have HR := Lib.hid hr
  have HL := Lib.hid hz
  have HZ := Lib.hid hb
  clear hr hz hb
  unfold maxLen at hcm
  obtain ⟨q, hq⟩ : ∃ q : Nat, (s : Int) % 20 = (q : Int) := ⟨s % 20, by omega⟩
  have hq20 : q < 20 := by omega
  obtain ⟨n, hn⟩ : ∃ n : Nat, 1 + (q : Int) = (n : Int) := ⟨1 + q, by omega⟩
  have hn1 : 1 ≤ n := by omega
  have hn20 : n ≤ 20 := by omega
  obtain ⟨p, hp⟩ : ∃ p : Nat, min (len : Int) 60 = (p : Int) := ⟨min len 60, by omega⟩
  have hpl : p ≤ len := by omega
  have hp60 : p ≤ 60 := by omega
  have hpm : max (p : Int) 0 = (p : Int) := by omega
  obtain ⟨i8, hi8, _, _, _⟩ := info_parts info_u8
  obtain ⟨i0, hi0, hz0, hz1, hz2⟩ := info_parts info_int
  have hsl := fun (k : Int) (h0 : 0 ≤ k) (h1 : k ≤ cap) (W : World) => run_prefix Try.prog 44 5 i8 A len cap k W Try.underlying44 hi8 h0 h1
  have hnw := Lib.hid (cNew_any w n hn1 (by omega))
  go_enter Try.func4, Try.ntmps4
  go_wp2_with fail
  refine hnw.out.mono ?_
  rintro x w1 ⟨b, fp0, rfl, hm1, hc1, hf1⟩
  have H1 := Lib.hid (And.intro hm1 (And.intro hc1 hf1))
  clear hm1 hc1 hf1 hnw
  go_wp2_with fail
  refine (w11_any w1).mono ?_
  rintro x w2 ⟨rfl, hm2⟩
  have HM2 := Lib.hid hm2
  have hmm := run_makeMapU w2
  clear hm2
  go_wp2_with fail
  clear hsl hp hq hn hmm
  obtain ⟨w3, hw3⟩ : ∃ w3, w2.alloc (.map #[] 0) = w3 := ⟨_, rfl⟩
  have hmap : MapK kvC w3 w2.heap.size (fun _ => none) 0 := by rw [← hw3]; exact MapK.made w2
  have hm3 : Mods [] w2 w3 := by rw [← hw3]; exact (Mods.refl _ _).alloc _
  rw [hw3]
  obtain ⟨bm, hbm⟩ : ∃ bm, w2.heap.size = bm := ⟨_, rfl⟩
  rw [hbm] at hmap ⊢
  have HW : Hid (LastW w w3 b bm n 0 [] none) := by
    obtain ⟨hm1, hc1, hf1⟩ := H1.out
    have hsz := HM2.out.size
    have hsz1 := hm1.size
    have hlt := hmap.lt
    refine ⟨⟨fp0, by rw [List.take_nil, List.map_nil]; exact (hc1.keep HM2.out (by simp)).keep hm3 (by simp), hf1, fun h => ?_, fun _ h => by cases h⟩, by simp, by simp, ⟨0, ?_⟩, .inl rfl, (hm1.trans HM2.out (by simp)).trans hm3 (by simp), by omega, hlt, by simp, fun _ h => by cases h⟩
    · have := hc1.lt _ h; omega
    · have : lastF [] = fun _ => none := by funext c; simp [lastF]
      rw [this]; exact hmap
  clear hw3 hmap hm3 hbm H1 HM2
  go_loopw [8, 50] (fun ov iv wr => ∃ i : Nat, i ≤ p ∧ iv = .int .i64 i ∧ ∃ P B c, ov = .slice B P.length c ∧ P.length ≤ c ∧ LastW w wr b bm n i P B) (fun _ iv _ => p - (intOf iv).toNat)
  case atStart => exact ⟨0, Nat.zero_le _, rfl, [], none, 0, rfl, by simp, HW.out⟩
  case round =>
    obtain ⟨i, hi, rfl, P, B, c, rfl, hPc, hW⟩ := hrel
    clear HW
    by_cases hlt : i < p
    · have hzi : i < zs.length := by have := HL.out; omega
      obtain ⟨bz, off, rfl, hcell⟩ := (HR.out.keep hW.mods (fun _ _ => by simp)).at (i := i) (u := .int .u8 (zs[i] : Nat)) (by simp [u8sOf, hzi])
      have hz256 := HZ.out _ (List.getElem_mem hzi)
      generalize zs[i] = z at *
      obtain ⟨a, ha⟩ : ∃ a : Nat, (z : Int) % 40 = (a : Int) := ⟨z % 40, by omega⟩
      have ha40 : a < 40 := by omega
      obtain ⟨r, hr, hr2⟩ : ∃ r : Nat, i % 20 = r ∧ (i : Int) % 20 = (r : Int) := ⟨i % 20, rfl, by omega⟩
      have hcv := conv_rune r (by omega)
      have hcnt := hW.cnt
      have hbmlt := hW.bmlt
      obtain ⟨fp, hC, hF, hB, hA⟩ := hW.ex
      have HW := Lib.hid hW
      have hpt := Lib.hid (cPut_any hC hn1 a i 0 4 (pl r) (by omega))
      have HF := Lib.hid (And.intro hF (And.intro hB hA))
      clear hC hF hB hA hW
      go_wp2_with fail
      refine hpt.out.mono ?_
      rintro x w4 ⟨rfl, fp1, hC1, hM1, hS1⟩
      obtain ⟨nm, hlast⟩ := HW.out.last
      obtain ⟨w5, hup, hM5, hm5, _⟩ := (hlast.keep hM1 HF.out.2.1).update (P := Try.prog) (T := 49) (K := 3) (E := 25) (d := .int .i64) kvC_key kvC_inj Try.underlying49 Try.underlying3 (a : Int) (.int .u64 (i : Nat))
      simp only [kvC] at hup
      have HM := Lib.hid (And.intro hC1 (And.intro hM1 (And.intro hS1 (And.intro hM5 hm5))))
      have hBm : ∀ a, B = some a → a.block ∉ [bm] := fun a ha h => HW.out.ab a ha (List.mem_singleton.1 h)
      have HRow : Hid (Row w5 B (intsA P.reverse)) := (HW.out.row.keep hM1 (fun a ha => (HF.out.2.2 a ha).2)).keep hm5 hBm
      clear hC1 hM1 hS1 hM5 hm5 hpt hlast
      go_wp2_with fail
      obtain ⟨B5, hB5⟩ : ∃ B5, w5.heap.size = B5 := ⟨_, rfl⟩
      obtain ⟨L, hL⟩ : ∃ L, P.length = L := ⟨_, rfl⟩
      rw [hL]
      have HHL := Lib.hid hL
      have hLi : L ≤ i := by omega
      clear hL hup
      go_loopw [13, 75] (fun ov iv wr => ∃ k : Nat, k ≤ L ∧ iv = .int .i64 k ∧ wr.ownsRow B5 3 1 ov (drop1 a (P.reverse.take k)).length (intsA (drop1 a (P.reverse.take k))) ∧ Mods [] w5 wr) (fun _ iv _ => L - (intOf iv).toNat)
      case atStart => exact ⟨0, Nat.zero_le _, rfl, World.ownsRow_nil _ _ _ _, Mods.refl _ _⟩
      case round =>
        obtain ⟨k, hk, rfl, hown, hm⟩ := hrel
        have HO := Lib.hid hown
        clear hown
        by_cases hkl : k < L
        · obtain ⟨x, hx⟩ : ∃ x, P.reverse[k]? = some x := ⟨_, List.getElem?_eq_getElem (by rw [List.length_reverse, HHL.out]; exact hkl)⟩
          obtain ⟨bb, ob, rfl, hcb⟩ := (HRow.out.keep hm (fun _ _ => by simp)).at (i := k) (u := .int .i64 ((x.1 : Nat) : Int)) (by rw [intsA, List.getElem?_map, hx]; rfl)
          have ht : P.reverse.take (k + 1) = P.reverse.take k ++ [x] := by rw [List.take_add_one, hx]; rfl
          have hs := drop1_snoc a (P.reverse.take k) x
          rw [← ht] at hs
          have HM1 := Lib.hid hm
          have hsz := hm.size
          have hol : (drop1 a (P.reverse.take k)).length ≤ k := by
            have h1 : (drop1 a (P.reverse.take k)).length ≤ (P.reverse.take k).length := List.length_filter_le _ _
            rw [List.length_take] at h1; omega
          clear hm hx ht
          by_cases hxa : x.1 = a
          · rw [if_neg (by simp [hxa])] at hs
            have HS := Lib.hid hs
            clear hs
            go_wp2_with fail
            go_roundw
            case rel => exact ⟨k + 1, by omega, by simp, by rw [HS.out]; exact HO.out, HM1.out⟩
            case measure => simp [intOf]; omega
          · rw [if_pos hxa] at hs
            have hxi : ¬ ((x.1 : Nat) : Int) = (a : Int) := by omega
            have HS := Lib.hid hs
            clear hs
            go_wp2_with (at_builtin; refine wpList_append_own _ rfl (.tmp 82) (.tmp 84) 48 rfl B5 3 i0 (.int .i64 0) 1 8 Try.underlying48 hi0 hz0 hz1 hz2 rfl (by decide) _ _ _ rfl (HO.out.alloc _) ⟨wr.heap.size, 0, none⟩ 1 1 [.int .i64 ((x.1 : Nat) : Int)] rfl rfl (cell_one_new _ _ _) (by simp [Value.oneCell']) (by unfold maxLen; omega) (by omega) (by simp; omega) ?_; intro v1 w6 hown1 hg1 _)
            have hm6 : Mods [] w5 w6 := (HM1.out.alloc _).grown hg1 (fun q hq => .inr (by have := (HO.out.lt q hq).1; omega))
            have HO1 := Lib.hid hown1
            clear hown1 hg1
            go_roundw
            case rel =>
              refine ⟨k + 1, by omega, by go_num, ?_, hm6⟩
              rw [HS.out, List.length_append, List.length_singleton, show intsA (drop1 a (P.reverse.take k) ++ [x]) = intsA (drop1 a (P.reverse.take k)) ++ [.int .i64 ((x.1 : Nat) : Int)] by unfold intsA; simp]
              exact HO1.out
            case measure => simp [intOf]; omega
        · obtain rfl : k = L := by omega
          have e1 : P.reverse.take k = P.reverse := List.take_of_length_le (by rw [List.length_reverse, HHL.out]; exact Nat.le_refl _)
          rw [e1] at HO
          have HM1 := Lib.hid hm
          have hsz := hm.size
          have hol : (drop1 a P.reverse).length ≤ k := by
            have h1 : (drop1 a P.reverse).length ≤ P.reverse.length := List.length_filter_le _ _
            rw [List.length_reverse, HHL.out] at h1; exact h1
          have hel : (put1 P a i).length = (drop1 a P.reverse).length + 1 := by
            unfold put1 drop1
            rw [List.length_cons, List.filter_reverse, List.length_reverse]
          have HEL := Lib.hid hel
          clear hm e1 hel
          go_wp2_with (at_builtin; refine wpList_append_own _ rfl (.tmp 87) (.tmp 89) 48 rfl B5 3 i0 (.int .i64 0) 1 8 Try.underlying48 hi0 hz0 hz1 hz2 rfl (by decide) _ _ _ rfl (HO.out.alloc _) ⟨wr.heap.size, 0, none⟩ 1 1 [.int .i64 (a : Nat)] rfl rfl (cell_one_new _ _ _) (by simp [Value.oneCell']) (by unfold maxLen; omega) (by omega) (by simp; omega) ?_; intro v1 w6 hown1 hg1 _)
          have hm6 : Mods [] w5 w6 := (HM1.out.alloc _).grown hg1 (fun q hq => .inr (by have := (HO.out.lt q hq).1; omega))
          rw [← HEL.out, ← put1_rev] at hown1
          obtain ⟨B6, c6, rfl, hrow6, hbase6, hl6, hc6, _⟩ := row_of_owns hown1
          have HN : Hid (LastW w w6 b bm n (i + 1) (put1 P a i) B6) := by
            obtain ⟨q1, q2, q3, q4, q5⟩ := HM.out
            refine HW.out.next hn1 ha40 HF.out.1 HF.out.2.1 (by rw [← hr] at q1; exact q1) q2 q3 ⟨_, q4⟩ q5 hm6 hrow6 (fun x hx => ⟨by rw [hB5]; exact hbase6 x hx, row_lt hrow6 ?_ hx⟩)
            rw [put1_rev]; simp
          clear hown1 hg1 hrow6
          go_roundw
          case rel => exact ⟨i + 1, by omega, by go_num, put1 P a i, B6, c6, rfl, hc6, HN.out⟩
          case measure => simp [intOf]; omega
    · obtain rfl : i = p := by omega
      have hnd := hW.nd
      have hall := hW.all
      have hcnt := hW.cnt
      have HA := Lib.hid hW.ask
      have HND := Lib.hid (And.intro hnd hall)
      obtain ⟨L, hL⟩ : ∃ L, P.length = L := ⟨_, rfl⟩
      rw [hL]
      have HHL := Lib.hid hL
      have hLi : L ≤ i := by omega
      clear hL hW hnd hall hcnt
      go_wp2_with fail
      go_loopw [94] (fun iv wr => ∃ k : Nat, k ≤ L ∧ iv = .int .i64 k ∧ ∃ R, AskW w wr b bm n (i + 2 * k) P B R) (fun iv _ => L - (intOf iv).toNat)
      case atStart => exact ⟨0, Nat.zero_le _, rfl, _, HA.out⟩
      case round =>
        obtain ⟨k, hk, rfl, R, hW⟩ := hrel
        clear HA
        by_cases hkl : k < L
        · obtain ⟨x, hx⟩ : ∃ x, P.reverse[k]? = some x := ⟨_, List.getElem?_eq_getElem (by rw [List.length_reverse, HHL.out]; exact hkl)⟩
          obtain ⟨bb, ob, rfl, hcb⟩ := hW.row.at (i := k) (u := .int .i64 ((x.1 : Nat) : Int)) (by rw [intsA, List.getElem?_map, hx]; rfl)
          have hxP : x ∈ P := List.mem_reverse.1 (List.mem_of_getElem? hx)
          have hx2 := (HND.out.2 x hxP).2
          have hxl := hW.look HND.out.1 hxP
          obtain ⟨r, hr, hr2⟩ : ∃ r : Nat, x.2 % 20 = r ∧ (x.2 : Int) % 20 = (r : Int) := ⟨x.2 % 20, rfl, by omega⟩
          have hcv := conv_rune r (by omega)
          have HX := Lib.hid (And.intro hx (And.intro hxP hr))
          obtain ⟨fp, c0, c1, hC, hc0, hc1, hF, hB, hAf⟩ := hW.ex
          have hadr := hC.adr
          have hask := ask_get HND.out.1 hadr hW.mem hx
          rw [HHL.out] at hask
          have HC := Lib.hid hC
          have HF := Lib.hid (And.intro hF (And.intro hB hAf))
          have HW := Lib.hid hW
          have HAD := Lib.hid hadr
          clear hC hF hB hAf hW hx hxP hadr hr
          rcases hask with ⟨hkn, hin, hg⟩ | ⟨hkn, hg⟩
          · have hgt := Lib.hid (cGet_hit HC.out (x.1 : Nat) x.2 0 hg (by omega) (by omega))
            rw [show (kp x).pay = pl r by unfold kp; rw [HX.out.2.2], show (kp x).kind = 4 from rfl] at hgt
            have hge : (L : Int) - (n : Int) ≤ (k : Int) := by omega
            have HIN := Lib.hid hin
            clear hin hg
            go_wp2_with fail
            refine hgt.out.mono ?_
            rintro y w4 ⟨rfl, fp1, hC1, hM1, hS1⟩
            have HW4 := Lib.hid (HW.out.hit HIN.out HAD.out (Mods.refl _ _) hC1 hM1 hS1 hc0 hc1 HF.out.1 HF.out.2.1 HF.out.2.2)
            have hl4 := HW4.out.look HND.out.1 HX.out.2.1
            obtain ⟨fp2, d0, d1, hC2, hd0, hd1, hF2, hB2, hA2⟩ := HW4.out.ex
            have hms := Lib.hid (cGet_miss hC2 (x.1 : Nat) x.2 1 (ask_other HW4.out.mem _ _) (by omega))
            have HF2 := Lib.hid (And.intro hF2 (And.intro hB2 hA2))
            clear hC1 hM1 hS1 hC2 hF2 hB2 hA2 hgt
            go_wp2_with fail
            refine hms.out.mono ?_
            rintro y w5 ⟨rfl, hC3, hM3⟩
            have HW5 := Lib.hid (HW4.out.miss (Mods.refl _ _) hC3 hM3 hd0 hd1 HF2.out.1 HF2.out.2.1 HF2.out.2.2)
            have hl5 := HW5.out.look HND.out.1 HX.out.2.1
            clear hC3 hM3 hms
            go_wp2_with fail
            go_roundw
            case rel => exact ⟨k + 1, by omega, by simp, _, by rw [show i + 2 * (k + 1) = i + 2 * k + 1 + 1 by omega]; exact HW5.out⟩
            case measure => simp [intOf]; omega
          · have hgt := Lib.hid (cGet_miss HC.out (x.1 : Nat) x.2 0 hg (by omega))
            have hge : ¬ (L : Int) - (n : Int) ≤ (k : Int) := by omega
            clear hg
            go_wp2_with fail
            refine hgt.out.mono ?_
            rintro y w4 ⟨rfl, hC1, hM1⟩
            have HW4 := Lib.hid (HW.out.miss (Mods.refl _ _) hC1 hM1 hc0 hc1 HF.out.1 HF.out.2.1 HF.out.2.2)
            have hl4 := HW4.out.look HND.out.1 HX.out.2.1
            obtain ⟨fp2, d0, d1, hC2, hd0, hd1, hF2, hB2, hA2⟩ := HW4.out.ex
            have hms := Lib.hid (cGet_miss hC2 (x.1 : Nat) x.2 1 (ask_other HW4.out.mem _ _) (by omega))
            have HF2 := Lib.hid (And.intro hF2 (And.intro hB2 hA2))
            clear hC1 hM1 hC2 hF2 hB2 hA2 hgt
            go_wp2_with fail
            refine hms.out.mono ?_
            rintro y w5 ⟨rfl, hC3, hM3⟩
            have HW5 := Lib.hid (HW4.out.miss (Mods.refl _ _) hC3 hM3 hd0 hd1 HF2.out.1 HF2.out.2.1 HF2.out.2.2)
            have hl5 := HW5.out.look HND.out.1 HX.out.2.1
            clear hC3 hM3 hms
            go_wp2_with fail
            go_roundw
            case rel => exact ⟨k + 1, by omega, by simp, _, by rw [show i + 2 * (k + 1) = i + 2 * k + 1 + 1 by omega]; exact HW5.out⟩
            case measure => simp [intOf]; omega
        · obtain rfl : k = L := by omega
          obtain ⟨fp, c0, c1, hC, _⟩ := hW.ex
          have hlen := hW.len
          rw [HHL.out] at hlen
          have hls := Lib.hid (cList_any hC)
          have HM := Lib.hid hW.mods
          have hmin : min (n : Int) (k : Int) = (R.length : Nat) := by omega
          clear hC hW
          go_wp2_with fail
          refine hls.out.mono ?_
          rintro y w5 ⟨u, rfl, hrow, hm5, hnil⟩
          have HM5 : Hid (Mods [] w w5) := HM.out.trans hm5 (by simp)
          obtain ⟨su, cu, rfl⟩ : ∃ su cu, u = .slice su R.length cu := by
            rcases hrow.2 with ⟨rfl, h0⟩ | ⟨g, cap, cur, rfl, _⟩
            · exact ⟨_, _, by rw [h0]⟩
            · exact ⟨_, _, rfl⟩
          clear hrow hm5 hnil hls
          go_wp2_with fail
          go_ret
          exact ⟨by simp, HM5.out⟩
theorem readables_cacheLast : ∀ t ∈ (#[44, 5] : Array TypeId).toList, Try.prog.readableRec t = true ∧ t < Try.prog.types.size := by
  intro t ht
  simp only [List.mem_cons, List.not_mem_nil, or_false] at ht
  rcases ht with rfl | rfl
  all_goals exact ⟨by kernel_rfl, of_decide_eq_true (by kernel_rfl)⟩

set_option maxRecDepth 100000 in
theorem cacheLast_contract (H : Type) (enc : TypeId × Value → H) (W : World) (base : Nat) (args : Array Value) (ds gs : List (DataW H)) (before : List MemPlace)
    (hval : ∀ (j : Nat) t v, Try.f4.params[j]? = some t → args[j]? = some v → Value.okWide Try.prog W .any base t v)
    (hW : DataW.Whole enc Try.prog Try.f4.params.toList Rows.cacheLastSpec.vars false W args.toList ds gs before) :
    Calls Try.prog 4 args W fun e W' => ∃ v, e = .returned v ∧ Rows.cacheLastSpec.post enc Try.prog Try.f4 false true false false W args v W' := by
  have hW' := hW
  obtain ⟨p, q, hA0, hV, he, hfz, hnd⟩ := hW
  have hA : DataW.TrodAll enc Try.prog W 0 (fun _ => true) true Try.f4.params.toList args.toList ds p := hA0
  rw [Try.params4] at hA hval
  obtain ⟨v0, vs0, d0, ds0, p0, q0, hargs, rfl, rfl, h0, r0⟩ := trodAll_cons hA
  obtain ⟨v1, vs1, d1, ds1, p1, q1, rfl, rfl, rfl, h1, r1⟩ := trodAll_cons r0
  obtain ⟨rfl, rfl, rfl⟩ := trodAll_nil r1
  obtain rfl : args = #[v0, v1] := by cases args; simp_all
  obtain ⟨lA, lLen, lCap, l, rfl, lRow, lL, lC, lM, lB⟩ := u8s_open Try.underlying44 Try.underlying5 cellsU8 (hval 0 44 v0 rfl rfl) h0
  obtain ⟨s', rfl, rfl, rfl, ws⟩ := open_int Try.underlying5 (hval 1 5 v1 rfl rfl) h1
  have bs := bounds_u8 ws
  obtain ⟨s, rfl⟩ := Int.eq_ofNat_of_zero_le bs.1
  refine (cacheLast_walk lA lLen lCap l s W lRow lL lC lM lB).mono fun e W' ⟨he', hm⟩ => ?_
  subst he'
  exact ⟨_, rfl, post_law laidOut (by rw [Try.params4]; exact readables_cacheLast) (by rfl) Try.underlying4 rfl rfl hW' hm.below⟩

set_option maxRecDepth 100000 in
theorem cacheLast_lifted (os : Os) (started : os.Started) (H : Type) (enc : TypeId × Value → H) :
    ReturnsInHanded {} Try.checked os 4 .any (Rows.cacheLastSpec.pre6 enc Try.prog Try.f4 Rows.cacheLastRow.domain false) (Rows.cacheLastSpec.post enc Try.prog Try.f4 false true false false) := by
  refine returnsInHanded_of_change (C := Try.checked) own started (by kernel_rfl) Try.func4
    (ChangeSpec.witness6 (enc := enc) (C := Try.checked) false ⟨#[], #[.slice none 0 0, .int .u8 0], []⟩ 8 (by kernel_rfl) (by kernel_rfl) (by kernel_rfl) (by kernel_rfl)) ?_
  intro W base args ds gs before hval hW _ _
  exact cacheLast_contract H enc W base args ds gs before hval hW

/-- The law. -/
theorem cacheLast_said : Rows.CacheLastSaid :=
  OpenClaim.holds_of_wide 4 Try.f4 rfl rfl rfl rfl rfl rfl rfl ⟨rfl, rfl, rfl, rfl, rfl⟩ rfl rfl rfl rfl rfl (by kernel_rfl) Try.func4 (by kernel_rfl)
    (of_decide_eq_true (by kernel_rfl)) (by unfold Func.isWrapper; first | (rw [if_pos (by decide +kernel)]; kernel_rfl) | (rw [if_neg (by decide +kernel)]; exact ⟨rfl, rfl⟩))
    (fun os started H enc _ => cacheLast_lifted os started H enc)
end Go.Proofs.Ytahaecieklfhkaa
