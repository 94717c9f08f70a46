/- BitsPlay: whatever the number, the acts and the place to begin at, the law answers true: whatever numbers are put, the answers, which are of the set, how many, and which come next, are the document's; a copy has nothing to do with what it is of. No condition but the form's own and the table's of math/bits, which the card ties to the program's text. -/
import Derived.Test.YtahaecieklfhkaaDoorLaid
import Derived.Test.YtahaecieklfhkaaDoorBits9
import Derived.Test.YtahaecieklfhkaaDoorArgs2
namespace Go.Proofs.YtahaecieklfhkaaDoor
open Go.ChangeShapes Go.WideShapes Go.ChangeAt Go.RowKit

/-- The acts' cells: a number, a bool. -/
def actsOf (l : List (Int × Bool)) : List Value := pairsOf (fun a => .int .i64 a.1) (fun a => .bool a.2) l
theorem actsOf_get {l : List (Int × Bool)} {i : Nat} {a : Int × Bool} (h : l[i]? = some a) : (actsOf l)[i * 2]? = some (.int .i64 a.1) ∧ (actsOf l)[i * 2 + 1]? = some (.bool a.2) :=
  pairsOf_get (fun a : Int × Bool => Value.int .i64 a.1) (fun a => Value.bool a.2) h
theorem acts_open {H : Type} {enc : TypeId × Value → H} {W : World} {base : Nat} {v : Value} {d : DataW H} {p : List MemPlace}
    (hv : Value.okWide Tryd.prog W .any base 40 v) (hj : DataW.Trod enc Tryd.prog W 0 (fun _ => true) true 40 v d p) :
    ∃ (A : Option Addr) (len cap : Nat) (zs : List (Int × Bool)), v = .slice A len cap ∧ Row W A (actsOf zs) ∧ zs.length = len ∧ len ≤ cap ∧ cap ≤ maxLen :=
  pairs_open (fun a : Int × Bool => Value.int .i64 a.1) (fun a => Value.bool a.2) Tryd.underlying40 Tryd.underlying43 (by kernel_rfl) rfl rfl (by kernel_rfl) (by kernel_rfl)
    (fun n u0 u1 y0 y1 h0 h1 => by
      obtain ⟨k, hk, _⟩ := DataW.trod_int Tryd.underlying3 h0
      obtain ⟨b, hb, _⟩ := DataW.trod_bool Tryd.underlying4 h1
      injection hk with hk
      injection hb with hb
      exact ⟨(k, b), hk, hb⟩) hv hj
theorem info_act9 : (Tryd.prog.info? 43).map (fun i => (i.zero, i.size, i.bytes)) = some (some (.agg #[.int .i64 0, .bool false]), 2, 16) := by kernel_rfl

set_option maxHeartbeats 4000000 in
set_option maxRecDepth 100000 in
theorem bitsPlay_walk (n : Int) (Ad : Option Addr) (len cap : Nat) (zs : List (Int × Bool)) (from_ : Int) (w : World) (hT : Tab w) (hr : Row w Ad (actsOf zs)) (hz : zs.length = len) (hlc : len ≤ cap) :
    Calls Tryd.prog 5 #[.int .i64 n, .slice Ad len cap, .int .i64 from_] w fun e w' => e = .returned (.bool true) ∧ Mods [] w w' := by
  have hTl := hT.lt
  have HT := Lib.hid hT
  have HR := Lib.hid hr
  have HL := Lib.hid hz
  clear hT hr hz
  obtain ⟨p, hp⟩ : ∃ p : Nat, (if (40 : Int) < (len : Int) then (40 : Int) else (len : Int)) = (p : Int) := ⟨min 40 len, by split <;> omega⟩
  have hpl : p ≤ len := by have := hp; split at this <;> omega
  have hp40 : p ≤ 40 := by have := hp; split at this <;> omega
  obtain ⟨q0, hq0⟩ : ∃ q0 : Nat, (if (0 : Int) < n then n else 0) = (q0 : Int) := ⟨n.toNat, by split <;> omega⟩
  obtain ⟨q1, hq1⟩ : ∃ q1 : Nat, (q0 : Int) % 150 = (q1 : Int) := ⟨q0 % 150, by omega⟩
  obtain ⟨m, hm⟩ : ∃ m : Nat, 1 + (q1 : Int) = (m : Int) := ⟨1 + q1, by omega⟩
  have hm1 : 1 ≤ m := by omega
  have hm2 : m ≤ 150 := by omega
  obtain ⟨i43, hi43, _, _, _⟩ := info_parts info_act9
  have hsl := fun (k : Int) (h0 : 0 ≤ k) (h1 : k ≤ cap) (W : World) => run_prefix Tryd.prog 40 43 i43 Ad len cap k W Tryd.underlying40 hi43 h0 h1
  have hmk := run_make_row' (P := Tryd.prog) 32 4 (.bool false) 1 Tryd.underlying32 info_bool rfl .i64 .i64 m (by omega) (by omega)
  have HNew : Calls Tryd.prog 11 #[.int .i64 n] w fun e w' => ∃ ptr er, e = .returned (.tuple #[.pointer ptr, .int .i64 er]) ∧ Mods [] w w' ∧ ∃ bv : Bool, Hid ((decide (1 ≤ n) && decide (n ≤ 4096)) = bv) ∧ (bv = true ∧ er = 0 ∨ bv = false ∧ er = 2 ∧ ptr = none) := by
    by_cases hin : 1 ≤ n ∧ n ≤ 4096
    · obtain ⟨n', rfl⟩ := Int.eq_ofNat_of_zero_le (show 0 ≤ n by omega)
      exact (new_any w n' (by omega) (by omega)).mono fun e w' ⟨he, hm, _⟩ => ⟨_, _, he, hm, true, by unfold Hid; simp; omega, .inl ⟨rfl, rfl⟩⟩
    · exact (new_bad w n (by omega)).mono fun e w' ⟨he, hw⟩ => ⟨_, _, he, by rw [← hw]; exact Mods.refl _ _, false, by unfold Hid; rw [← Bool.not_eq_true]; simpa using hin, .inr ⟨rfl, rfl, rfl⟩⟩
  have HN0 := Lib.hid HNew
  clear HNew
  go_enter Tryd.func5, Tryd.ntmps5
  go_wp2_with fail
  refine HN0.out.mono ?_
  rintro e w1 ⟨ptr, er, rfl, hM1, bv, HD, hcase⟩
  have HT1 := Lib.hid (HT.out.keep hM1 (by simp))
  have HM1 := Lib.hid hM1
  clear hM1 HN0
  rcases hcase with ⟨rfl, rfl⟩ | ⟨rfl, rfl, rfl⟩
  all_goals
    go_wp2_with fail
    refine (may9_any _ _).mono ?_
    rintro e w' ⟨rfl, rfl⟩
    rw [HD.out]
    go_wp2_with fail
    refine (new_any _ m (by omega) (by omega)).mono ?_
    rintro e w2 ⟨rfl, hm2', hz2, hs2⟩
    have hM2 := HM1.out.trans hm2' (by simp)
    have HT2 := Lib.hid (HT1.out.keep hm2' (by simp))
    have hsz1 : w.heap.size ≤ w1.heap.size := HM1.out.size
    clear hm2' HT1 HM1
    go_wp2_with fail
    obtain ⟨W3, hW3⟩ : ∃ W3 : World, W3 = w2.alloc (.cells (madeCells #[.bool false] m) 4) := ⟨_, rfl⟩
    rw [← hW3]
    have hR3 : Row W3 (some ⟨w2.heap.size, 0, none⟩) (boolsOf (List.replicate m false)) := by
      refine .inr ⟨_, _, rfl, fun i u hi => ?_⟩
      have hb : Blk W3 w2.heap.size 4 (madeCells #[.bool false] m).toList := by rw [hW3]; exact Blk.new w2 4 _
      rw [toList_madeCells_one] at hb
      rw [Nat.zero_add]
      refine hb.cell ?_
      rw [← hi]; simp [boolsOf]
    have hm3 : Mods [] w2 W3 := by rw [hW3]; exact (Mods.refl _ _).alloc _
    have hsz3 : w1.heap.size + 3 ≤ W3.heap.size := by rw [hW3]; simp; omega
    rw [hz2] at hR3
    have hM3 := hM2.trans hm3 (by simp)
    have HT3 := Lib.hid (HT2.out.keep hm3 (by simp))
    have hS3 := hs2.keep hm3 (by simp) (by simp)
    clear hW3 hm3 hM2 HT2 hs2 hz2
    have HS3 := Lib.hid hS3
    have HR3 := Lib.hid hR3
    clear hS3 hR3
    go_wp2_with fail
    refine (w9_any _ HT3.out).mono ?_
    rintro e w4 ⟨rfl, hm4⟩
    have hS4 := HS3.out.keep hm4 (by simp) (by simp)
    have hR4 := HR3.out.keep hm4 (fun _ _ => by simp)
    have hT4 := HT3.out.keep hm4 (by simp)
    have hM4 := hM3.trans hm4 (by simp)
    have hsz4 : W3.heap.size ≤ w4.heap.size := hm4.size
    have hsame := same9_any (cap := m) hS4 hT4 hR4 from_
    rw [List.length_replicate] at hsame
    have HSA := Lib.hid hsame
    have HS4 := Lib.hid hS4
    have HR4 := Lib.hid hR4
    clear hsame hm4 hM3 HS3 HR3 HT3 hS4 hR4 hT4
    go_wp2_with fail
    refine HSA.out.mono ?_
    rintro e w5 ⟨rfl, hm5⟩
    have HS5 := Lib.hid (HS4.out.keep hm5 (by simp) (by simp))
    have HR5 := Lib.hid (HR4.out.keep hm5 (fun _ _ => by simp))
    have hM5 := hM4.trans hm5 (by simp)
    have hsz5 : w4.heap.size ≤ w5.heap.size := hm5.size
    clear hm5 hM4 HSA HS4 HR4
    go_wp2_with fail
    clear hsl hmk hp hq0 hq1 hm
    go_loopw [12, 75] (fun lv iv wr => ∃ i : Nat, i ≤ p ∧ iv = .int .i64 i ∧ ∃ (L : List Bool) (Al : Option Addr) (cl : Nat), lv = .slice Al m cl ∧ Hid (L.length = m) ∧ IsSet wr (w1.heap.size + 1) w1.heap.size L ∧ Row wr Al (boolsOf L) ∧
        Off Al [w1.heap.size] ∧ Mods [] w wr) (fun _ iv _ => p - (intOf iv).toNat)
    case atStart => exact ⟨0, Nat.zero_le _, rfl, _, _, _, rfl, by simp [Hid], HS5.out, HR5.out, by intro a ha; cases ha; simp, hM5⟩
    case round =>
      obtain ⟨i, hi, rfl, L, Al, cl, rfl, HLm, hS, hRl, hoff, hM⟩ := hrel
      have hSl := hS.lt
      have hsz := hM.size
      by_cases hlt : i < p
      · have hzi : i < zs.length := by have := HL.out; omega
        have hget := actsOf_get (List.getElem?_eq_getElem hzi)
        have hRz := HR.out.keep hM (fun _ _ => by simp)
        obtain ⟨bz, oz, rfl, hc0⟩ := hRz.at hget.1
        obtain ⟨bz', oz', hbz, hc1⟩ := hRz.at hget.2
        injection hbz with hbz
        injection hbz with hbz1 hbz2
        subst hbz1 hbz2
        generalize zs[i].1 = k at *
        generalize zs[i].2 = is at *
        rw [← Nat.add_assoc] at hc1
        clear hget hRz
        go_wp2_with fail
        obtain ⟨W6, hW6⟩ : ∃ W6 : World, W6 = wr.alloc (.cells #[.int .i64 k, .bool is] 43) := ⟨_, rfl⟩
        have hB6 : Blk W6 wr.heap.size 43 [.int .i64 k, .bool is] := by rw [hW6]; exact Blk.new wr 43 _
        have hm6 : Mods [] wr W6 := by rw [hW6]; exact (Mods.refl _ _).alloc _
        have hsz6 : wr.heap.size + 1 ≤ W6.heap.size := by rw [hW6]; simp
        have hM6 := hM.trans hm6 (by simp)
        have hS6 := hS.keep hm6 (by simp) (by simp)
        have hR6 := hRl.keep hm6 (fun _ _ => by simp)
        rw [← hW6]
        clear hW6 hm6 hM hS hRl hc0 hc1
        have HB6 := Lib.hid hB6
        have HR6 := Lib.hid hR6
        clear hB6 hR6
        have HOff := Lib.hid hoff
        clear hoff
        refine (copy_any hS6).mono ?_
        rintro e w7 ⟨b1, c1, rfl, hO7, hm7, hb1, hc1'⟩
        have hS7 := hS6.keep hm7 (by simp) (by simp)
        have hB7 := HB6.out.keep hm7 (by simp)
        have hR7 := HR6.out.keep hm7 (fun _ _ => by simp)
        have hM7 := hM6.trans hm7 (by simp)
        have hsz7 : W6.heap.size ≤ w7.heap.size := hm7.size
        have hk7 := hB7.cell (i := 0) rfl
        have hi7 := hB7.cell (i := 1) rfl
        have hOl := hO7.lt
        have HO7 := Lib.hid hO7
        have HR7 := Lib.hid hR7
        have HB7 := Lib.hid hB7
        clear hm7 hS6 hM6 HR6 HB6 hO7 hR7 hB7
        have hput := refPut9_any (cap := cl) HR7.out (by have := HLm.out; omega) k is
        rw [HLm.out] at hput
        have HP := Lib.hid hput
        obtain ⟨was, hwas⟩ : ∃ was, memI L k = was := ⟨_, rfl⟩
        obtain ⟨L2, hL2⟩ : ∃ L2, setI L k is = L2 := ⟨_, rfl⟩
        have hL2m : L2.length = m := by rw [← hL2, setI_length]; exact HLm.out
        have HW := Lib.hid hwas
        have HL2 := Lib.hid hL2
        have HL2m := Lib.hid hL2m
        clear hput hwas hL2 hL2m
        go_wp2_with fail
        refine HP.out.mono ?_
        rintro e w8 ⟨A2, cap2, rfl, hR8, hm8, hoff8⟩
        rw [HW.out]
        rw [HL2.out] at hR8
        have hS8 := hS7.keep hm8 (by simp) (by simp)
        have hO8 := HO7.out.keep hm8 (by simp) (by simp)
        have hRo8 := HR7.out.keep hm8 (fun _ _ => by simp)
        have hB8 := HB7.out.keep hm8 (by simp)
        have hM8 := hM7.trans hm8 (by simp)
        have hk8 := hB8.cell (i := 0) rfl
        have hi8 := hB8.cell (i := 1) rfl
        have hsz8 : w7.heap.size ≤ w8.heap.size := hm8.size
        have HR8 := Lib.hid hR8
        have HRo8 := Lib.hid hRo8
        have HO8 := Lib.hid hO8
        have HOff8 := Lib.hid hoff8
        clear hm8 hS7 hM7 HR7 HB7 HO7 hR8 hRo8 hB8 hO8 hk7 hi7 HP hoff8
        go_wp2_with fail
        refine (put_to hS8 k is was L2 HW.out HL2.out).mono ?_
        rintro e w9 ⟨rfl, hm9, hS9⟩
        have hR9 := HR8.out.keep hm9 (fun a ha => by have := HOff8.out a ha; simp; omega)
        have hRo9 := HRo8.out.keep hm9 HOff.out
        have hO9 := HO8.out.keep hm9 (by simp; omega) (by simp; omega)
        have hM9 := hM8.trans hm9 (by simp; omega)
        have hsz9 : w8.heap.size ≤ w9.heap.size := hm9.size
        have hT9 := HT.out.keep hM9 (by simp)
        have hsame := same9_any (cap := cap2) hS9 hT9 hR9 from_
        rw [HL2m.out] at hsame
        have HSA := Lib.hid hsame
        have HS9 := Lib.hid hS9
        have HR9 := Lib.hid hR9
        have HRo9 := Lib.hid hRo9
        have HO9 := Lib.hid hO9
        clear hm9 hS8 hM8 HR8 HRo8 HO8 hS9 hR9 hRo9 hO9 hk8 hi8 hT9 hsame
        go_wp2_with fail
        refine HSA.out.mono ?_
        rintro e w10 ⟨rfl, hm10⟩
        have hS10 := HS9.out.keep hm10 (by simp) (by simp)
        have hR10 := HR9.out.keep hm10 (fun _ _ => by simp)
        have hRo10 := HRo9.out.keep hm10 (fun _ _ => by simp)
        have hO10 := HO9.out.keep hm10 (by simp) (by simp)
        have hM10 := hM9.trans hm10 (by simp)
        have hT10 := HT.out.keep hM10 (by simp)
        have hsame2 := same9_any (cap := cl) hO10 hT10 hRo10 from_
        rw [HLm.out] at hsame2
        have HSA2 := Lib.hid hsame2
        have HS10 := Lib.hid hS10
        have HR10 := Lib.hid hR10
        clear hm10 HS9 HR9 HRo9 HO9 hM9 HSA hsame2 hS10 hR10 hRo10 hO10 hT10
        go_wp2_with fail
        refine HSA2.out.mono ?_
        rintro e w11 ⟨rfl, hm11⟩
        have hS11 := HS10.out.keep hm11 (by simp) (by simp)
        have hR11 := HR10.out.keep hm11 (fun _ _ => by simp)
        have hM11 := hM10.trans hm11 (by simp)
        have HS11 := Lib.hid hS11
        have HR11 := Lib.hid hR11
        have HM11 := Lib.hid hM11
        clear hm11 HS10 HR10 hM10 HSA2 hS11 hR11 hM11
        go_wp2_with fail
        go_roundw
        case rel => exact ⟨i + 1, by omega, by go_num, L2, _, _, rfl, HL2m, HS11.out, HR11.out, fun a ha => by have := HOff8.out a ha; simp; omega, HM11.out⟩
        case measure => simp [intOf]; omega
      · obtain rfl : i = p := by omega
        go_wp2_with fail
        go_ret
        exact ⟨rfl, hM⟩
theorem readables_bitsPlay : ∀ t ∈ (#[3, 40, 3] : Array TypeId).toList, Tryd.prog.readableRec t = true ∧ t < Tryd.prog.types.size := by
  intro t ht
  simp only [List.mem_cons, List.not_mem_nil, or_false] at ht
  rcases ht with rfl | rfl | rfl
  all_goals exact ⟨by kernel_rfl, of_decide_eq_true (by kernel_rfl)⟩
theorem standIns_bitsPlay (j : Nat) (t : TypeId) (ht : (#[3, 40, 3] : Array TypeId)[j]? = some t) : Tryd.pinned.checked.prog.wantsStandIn t = false := by
  have hm := Array.mem_of_getElem? ht
  simp only [List.mem_toArray, List.mem_cons, List.not_mem_nil, or_false] at hm
  rcases hm with rfl | rfl | rfl
  · exact (show Tryd.prog.wantsStandIn 3 = false by kernel_rfl)
  · exact (show Tryd.prog.wantsStandIn 40 = false by kernel_rfl)
  · exact (show Tryd.prog.wantsStandIn 3 = false by kernel_rfl)

theorem bitsPlay_contract (H : Type) (enc : TypeId × Value → H) (W : World) (base : Nat) (args : Array Value) (ds gs : List (DataW H)) (before : List MemPlace)
    (hval : ∀ (j : Nat) t v, Tryd.f5.params[j]? = some t → args[j]? = some v → Value.okWide Tryd.prog W .any base t v)
    (hW : DataW.Whole enc Tryd.prog Tryd.f5.params.toList Rows.bitsPlaySpec.vars false W args.toList ds gs before) (hL : laidMetH Tryd.prog laidVars W) :
    Calls Tryd.prog 5 args W fun e W' => ∃ v, e = .returned v ∧ Rows.bitsPlaySpec.post enc Tryd.prog Tryd.f5 false true false false W args v W' := by
  have hW' := hW
  obtain ⟨p, q, hA0, hV, he, hfz, hnd⟩ := hW
  have hA : DataW.TrodAll enc Tryd.prog W 0 (fun _ => true) true Tryd.f5.params.toList args.toList ds p := hA0
  rw [Tryd.params5] at hA hval
  obtain ⟨v0, vs0, d0, ds0, p0, q0, hargs, rfl, rfl, h0, r0⟩ := trodAll_cons hA
  obtain ⟨v1, vs1, d1, ds1, p1, q1, rfl, rfl, rfl, h1, r1⟩ := trodAll_cons r0
  obtain ⟨v2, vs2, d2, ds2, p2, q2, rfl, rfl, rfl, h2, r2⟩ := trodAll_cons r1
  obtain ⟨rfl, rfl, rfl⟩ := trodAll_nil r2
  obtain rfl : args = #[v0, v1, v2] := by cases args; simp_all
  obtain ⟨n, rfl, rfl, rfl, wn⟩ := open_int Tryd.underlying3 (hval 0 3 v0 rfl rfl) h0
  obtain ⟨lA, lLen, lCap, l, rfl, lRow, lL, lC, lM⟩ := acts_open (hval 1 40 v1 rfl rfl) h1
  obtain ⟨f, rfl, rfl, rfl, wf⟩ := open_int Tryd.underlying3 (hval 2 3 v2 rfl rfl) h2
  refine (bitsPlay_walk n lA lLen lCap l f W (tab_of_laid hL) lRow lL lC).mono fun e W' ⟨he', hm⟩ => ?_
  subst he'
  exact ⟨_, rfl, post_law laidOut (by rw [Tryd.params5]; exact readables_bitsPlay) (by rfl) Tryd.underlying4 rfl rfl hW' hm.below⟩

theorem bitsPlay_reads (os : Os) {H : Type} (enc : TypeId × Value → H) : ∃ places, DataW.whole enc Tryd.prog ((laidWorld os).forCall (fun _ _ => 0) ⟨#[], #[.int .i64 0, .slice none 0 0, .int .i64 0], []⟩).memory Tryd.f5.params.toList Rows.bitsPlaySpec.vars false (#[.int .i64 0, .slice none 0 0, .int .i64 0] : Array Value).toList 8 = some ([.lit (.int .i64 0), .nil, .lit (.int .i64 0)], [], places) :=
  ⟨[], by kernel_rfl⟩

set_option maxRecDepth 100000 in
theorem bitsPlay_lifted (os : Os) (started : os.Started) (H : Type) (enc : TypeId × Value → H) (F : Stop.Interp) :
    ReturnsInHanded {} Tryd.checked os 5 .any ((OpenSpec.ofChange Rows.bitsPlaySpec).preRow enc Tryd.prog Tryd.f5 Rows.bitsPlayRow.domain false Rows.bitsPlayRow.laid) (((OpenSpec.ofChange Rows.bitsPlaySpec).at F).post enc Tryd.prog Tryd.f5 false true false false) := by
  obtain ⟨places, hx⟩ := bitsPlay_reads os enc
  refine returnsInHanded_of_row (C := Tryd.checked) (s := OpenSpec.ofChange Rows.bitsPlaySpec) own started (by kernel_rfl) Tryd.func5
    (witness_row_at (enc := enc) (C := Tryd.checked) false (laidWorld os) #[.int .i64 0, .slice none 0 0, .int .i64 0] rfl (by kernel_rfl) (by kernel_rfl) (by kernel_rfl)
      (OpenSpec.preRow_of_cond 8 hx (by kernel_rfl) (fun k hk => by cases hk) (by kernel_rfl) (laid_met os _))) ?_
  intro W base args ds gs before hval hW _ _ _ hL _ _
  exact bitsPlay_contract H enc W base args ds gs before hval hW hL

theorem bitsPlay_said : Rows.BitsPlaySaid :=
  OpenClaim.holds_of_cond 5 Tryd.f5 rfl rfl rfl rfl rfl rfl rfl ⟨rfl, rfl, rfl, rfl, rfl⟩ rfl rfl rfl rfl rfl (by kernel_rfl) Tryd.func5 (by kernel_rfl)
    (of_decide_eq_true (by kernel_rfl)) (by unfold Func.isWrapper; first | (rw [if_pos (by decide +kernel)]; kernel_rfl) | (rw [if_neg (by decide +kernel)]; exact ⟨rfl, rfl⟩))
    (fun os started H enc _ F => by rw [OpenClaim.pre_eq_preRow]; exact bitsPlay_lifted os started H enc F)

theorem bitsPlay_plain (f : FuncId) (fn : Func) (hf : Tryd.pinned.checked.prog.funcNamed "treenail/treenaillaw09.BitsPlay" = some f) (hfn : Tryd.pinned.checked.prog.funcs[f]? = some fn) :
    false = Tryd.pinned.checked.prog.looks [] ∧ ∀ (j : Nat) t, fn.params[j]? = some t → Tryd.pinned.checked.prog.wantsStandIn t = false := by
  obtain rfl : f = 5 := Option.some.inj ((show Tryd.prog.funcNamed "treenail/treenaillaw09.BitsPlay" = some 5 by kernel_rfl).symm.trans hf) |>.symm
  obtain rfl : fn = Tryd.f5 := (Option.some.inj (Tryd.func5.symm.trans hfn)).symm
  refine ⟨by kernel_rfl, fun j t ht => ?_⟩
  rw [Tryd.params5] at ht
  exact standIns_bitsPlay j t ht

/-- The card. -/
theorem bitsPlay_card : Rows.BitsPlayCardSaid :=
  Claim7.holds_tied_plain_at .later [] _ _ _ _ bitsPlay_said (fun _ h => by cases h) (by kernel_rfl) (fun _ h => by cases h) bitsPlay_row_tie rfl ⟨rfl, rfl⟩ (by kernel_rfl) rfl bitsPlay_plain (by kernel_rfl)
end Go.Proofs.YtahaecieklfhkaaDoor
