/- SpacePlays: whatever the numbers and the acts, the law answers true: whatever is taken, given, used, settled and undone, the answers, which blocks are used, and the generations, are the document's. No condition but the form's own and the table's of math/bits, which the card ties to the program's text. -/
import Derived.Test.YtahaecieklfhkaaDoorLaid
import Derived.Test.YtahaecieklfhkaaDoorLawPost
import Derived.Test.YtahaecieklfhkaaDoorArgs2
import Derived.Test.YtahaecieklfhkaaDoorArgs3
import Derived.Test.YtahaecieklfhkaaDoorPPlay
namespace Go.Proofs.YtahaecieklfhkaaDoor
open Go.ChangeShapes Go.WideShapes Go.ChangeAt Go.RowKit

/-- The acts' cells: two numbers. -/
def actsOfX (l : List (Int × Int)) : List Value := pairsOf (fun a => .int .i64 a.1) (fun a => .int .i64 a.2) l
theorem actsOfX_get {l : List (Int × Int)} {i : Nat} {a : Int × Int} (h : l[i]? = some a) : (actsOfX l)[i * 2]? = some (.int .i64 a.1) ∧ (actsOfX l)[i * 2 + 1]? = some (.int .i64 a.2) :=
  pairsOf_get (fun a : Int × Int => Value.int .i64 a.1) (fun a => Value.int .i64 a.2) h
theorem spUsed_no {w : World} {b : Nat} {fp : List Nat} {S : Sp} (h : IsSpace w b fp S) {v : Int} (hv : memI S.used v = false) :
    Calls Tryd.prog 41 #[.pointer (some ⟨b, 0, none⟩), .int .i64 v] w fun e w' => e = .returned (.bool false) ∧ ∃ n, w' = w.drewN n := by
  have := spUsed_any h v
  rw [hv] at this; exact this
theorem acts_openX {H : Type} {enc : TypeId × Value → H} {W : World} {base : Nat} {v : Value} {d : DataW H} {p : List MemPlace}
    (hv : Value.okWide Tryd.prog W .any base 61 v) (hj : DataW.Trod enc Tryd.prog W 0 (fun _ => true) true 61 v d p) :
    ∃ (A : Option Addr) (len cap : Nat) (zs : List (Int × Int)), v = .slice A len cap ∧ Row W A (actsOfX zs) ∧ zs.length = len ∧ len ≤ cap ∧ cap ≤ maxLen :=
  pairs_open (fun a : Int × Int => Value.int .i64 a.1) (fun a => Value.int .i64 a.2) Tryd.underlying61 Tryd.underlying66 (by kernel_rfl) rfl rfl (by kernel_rfl) (by kernel_rfl)
    (fun n u0 u1 y0 y1 h0 h1 => by
      obtain ⟨k, hk, _⟩ := DataW.trod_int Tryd.underlying3 h0
      obtain ⟨b, hb, _⟩ := DataW.trod_int Tryd.underlying3 h1
      injection hk with hk
      injection hb with hb
      exact ⟨(k, b), hk, hb⟩) hv hj
theorem info_act10 : (Tryd.prog.info? 66).map (fun i => (i.zero, i.size, i.bytes)) = some (some (.agg #[.int .i64 0, .int .i64 0]), 2, 16) := by kernel_rfl


set_option maxHeartbeats 32000000 in
set_option maxRecDepth 100000 in
theorem spacePlays_walk (x0 x1 : Int) (g0 g1 : Nat) (Ad : Option Addr) (len cap : Nat) (zs : List (Int × Int)) (w : World) (hT : Tab w) (hg0 : g0 < 18446744073709551616) (hg1 : g1 < 18446744073709551616) (hr : Row w Ad (actsOfX zs)) (hz : zs.length = len) (hlc : len ≤ cap) :
    Calls Tryd.prog 9 #[.agg #[.int .i64 x0, .int .i64 x1], .agg #[.int .u64 g0, .int .u64 g1], .slice Ad len cap] w fun e w' => e = .returned (.bool true) ∧ Mods [] w w' := by
  have hTl := hT.lt
  have HT := Lib.hid hT
  have HR := Lib.hid hr
  have HL := Lib.hid hz
  clear hT hr hz
  obtain ⟨p, hp⟩ : ∃ p : Nat, (if (40 : Int) < (len : Int) then (40 : Int) else (len : Int)) = (p : Int) := ⟨min 40 len, by split <;> omega⟩
  have hpl : p ≤ len := by have := hp; split at this <;> omega
  have hp40 : p ≤ 40 := by have := hp; split at this <;> omega
  obtain ⟨q0, hq0⟩ : ∃ q0 : Nat, (if (0 : Int) < x0 then x0 else 0) = (q0 : Int) := ⟨x0.toNat, by split <;> omega⟩
  obtain ⟨q1, hq1⟩ : ∃ q1 : Nat, (q0 : Int) % 12 = (q1 : Int) := ⟨q0 % 12, by omega⟩
  obtain ⟨n, hn⟩ : ∃ n : Nat, 1 + (q1 : Int) = (n : Int) := ⟨1 + q1, by omega⟩
  have hn1 : 1 ≤ n := by omega
  have hn2 : n ≤ 12 := by omega
  obtain ⟨r0, hr0⟩ : ∃ r0 : Nat, (if (0 : Int) < x1 then x1 else 0) = (r0 : Int) := ⟨x1.toNat, by split <;> omega⟩
  obtain ⟨fi, hfi⟩ : ∃ fi : Nat, (r0 : Int) % (n : Int) = (fi : Int) := ⟨r0 % n, by rw [← Int.natCast_emod]⟩
  have hfn : fi < n := by have := Int.emod_lt_of_pos (r0 : Int) (show (0 : Int) < n by omega); omega
  obtain ⟨la, hla⟩ : ∃ la : Nat, (g0 : Int) % 5 = (la : Int) := ⟨g0 % 5, by omega⟩
  have hla5 : la < 5 := by omega
  obtain ⟨i43, hi43, _, _, _⟩ := info_parts info_act10
  have hsl := fun (k : Int) (h0 : 0 ≤ k) (h1 : k ≤ cap) (W : World) => run_prefix Tryd.prog 61 66 i43 Ad len cap k W Tryd.underlying61 hi43 h0 h1
  have hrem := fun (W : World) => run_rem_pos Tryd.prog 3 (r0 : Int) (n : Int) W (by omega) (by omega)
  have HNew : ∀ W, Calls Tryd.prog 24 #[.int .i64 x0, .int .i64 x1, .int .u64 g0, .int .u64 g1] W fun e w' => ∃ ptr er, e = .returned (.tuple #[.pointer ptr, .int .i64 er]) ∧ Mods [] W w' ∧ ∃ bv : Bool, Hid ((decide (1 ≤ x0) && decide (x0 ≤ 4096) && decide (0 ≤ x1) && decide (x1 < x0) && decide (g0 ≤ g1)) = bv) ∧ (bv = true ∧ er = 0 ∨ bv = false ∧ er = 2 ∧ ptr = none) := by
    intro W
    by_cases hin : 1 ≤ x0 ∧ x0 ≤ 4096 ∧ 0 ≤ x1 ∧ x1 < x0 ∧ g0 ≤ g1
    · obtain ⟨a, rfl⟩ := Int.eq_ofNat_of_zero_le (show 0 ≤ x0 by omega)
      obtain ⟨c, rfl⟩ := Int.eq_ofNat_of_zero_le (show 0 ≤ x1 by omega)
      exact (spNew_any W a c g0 g1 (by omega) (by omega) (by omega) (by omega)).mono fun e w' ⟨_, _, he, hm, _⟩ => ⟨_, _, he, hm, true, by unfold Hid; simp; omega, .inl ⟨rfl, rfl⟩⟩
    · exact (spNew_bad W x0 x1 g0 g1 (by omega)).mono fun e w' ⟨he, hm⟩ => ⟨_, _, he, hm, false, by unfold Hid; rw [← Bool.not_eq_true]; simp only [Bool.and_eq_true, decide_eq_true_eq]; omega, .inr ⟨rfl, rfl, rfl⟩⟩
  have HN0 := Lib.hid HNew
  clear HNew
  go_enter Tryd.func9, Tryd.ntmps9
  go_wp2_with fail
  obtain ⟨W0, hW0⟩ : ∃ W0 : World, W0 = (w.alloc (.cells #[.int .i64 x0, .int .i64 x1] 31)).alloc (.cells #[.int .u64 g0, .int .u64 g1] 60) := ⟨_, rfl⟩
  rw [← hW0]
  have hb0 : Blk W0 w.heap.size 31 [.int .i64 x0, .int .i64 x1] := by rw [hW0]; exact (Blk.new w 31 [.int .i64 x0, .int .i64 x1]).alloc _
  have hb1 : Blk W0 (w.heap.size + 1) 60 [.int .u64 g0, .int .u64 g1] := by
    have := Blk.new (w.alloc (.cells #[.int .i64 x0, .int .i64 x1] 31)) 60 [.int .u64 g0, .int .u64 g1]
    rw [hW0]; simpa using this
  have hm0 : Mods [] w W0 := by rw [hW0]; exact ((Mods.refl _ _).alloc _).alloc _
  have HB0 := Lib.hid hb0
  have HB1 := Lib.hid hb1
  have HM0 := Lib.hid hm0
  clear hW0 hb0 hb1 hm0
  refine (HN0.out _).mono ?_
  rintro e w1 ⟨ptr, er, rfl, hM1, bv, HD, hcase⟩
  have HB0 := Lib.hid (HB0.out.keep hM1 (by simp))
  have HB1 := Lib.hid (HB1.out.keep hM1 (by simp))
  have HM1 := Lib.hid (HM0.out.trans hM1 (by simp))
  have a0 := HB0.out.cell (i := 0) rfl
  have a1 := HB0.out.cell (i := 1) rfl
  have a2 := HB1.out.cell (i := 0) rfl
  have a3 := HB1.out.cell (i := 1) rfl
  clear hM1 HN0
  rcases hcase with ⟨rfl, rfl⟩ | ⟨rfl, rfl, rfl⟩
  all_goals
    go_wp2_with fail
    refine (may10_any _ _ _ _ _).mono ?_
    rintro e w' ⟨rfl, rfl⟩
    rw [HD.out]
    go_wp2_with fail
    go_quiet (fail)
    have HT1 := Lib.hid (HT.out.keep HM1.out (by simp))
    have hnw := fun (q : Nat) => spNew_any (w1.drewN q) n fi 0 la (by omega) (by omega) (by omega) (by omega)
    have HNw := Lib.hid hnw
    clear hnw a0 a1 a2 a3
    go_wp2_with fail
    refine (HNw.out _).mono ?_
    rintro e w2 ⟨b, fp0, rfl, hm2, hs2, hf2⟩
    have HM2 := Lib.hid ((HM1.out.drewN _).trans hm2 (by simp))
    have HS2 := Lib.hid hs2
    have HF2 := Lib.hid hf2
    have hsz1 : w.heap.size ≤ w1.heap.size := HM1.out.size
    have HT2 := Lib.hid (HT.out.keep HM2.out (by simp))
    clear hm2 hs2 hf2 HNw
    go_wp2_with fail
    refine (rNew_any w2 n fi 0 la (by omega) (by omega) (by omega)).mono ?_
    rintro e w3 ⟨c, fq0, rfl, hm3, hr3, hf3⟩
    have HW3 : Hid (PlayW w w3 b c (Sp.new n fi 0 la) fp0 fq0 n) := by
      have hsz2 := HM2.out.size
      have hlt := HS2.out.lt
      exact ⟨HS2.out.keep hm3 (by simp), hr3, play_new n fi 0 la hfn, HM2.out.trans hm3 (by simp), fun k hk => by have := HF2.out k hk; simp at this; omega, fun k hk => by have := hf3 k hk; omega, fun k hk hk2 => by have := hlt k hk; have := hf3 k hk2; omega⟩
    have HT3 := Lib.hid (HT2.out.keep hm3 (by simp))
    clear hm3 hr3 hf3 HF2 HS2 HM2 HT2
    go_wp2_with fail
    refine (w10_any _ HT3.out).mono ?_
    rintro e w4 ⟨rfl, hm4⟩
    have HW4 : Hid (PlayW w w4 b c (Sp.new n fi 0 la) fp0 fq0 n) := ⟨HW3.out.sp.keep hm4 (by simp), HW3.out.rf.keep hm4 (by simp), HW3.out.ok, HW3.out.mods.trans hm4 (by simp), HW3.out.newP, HW3.out.newQ, HW3.out.dis⟩
    clear hm4 HW3 HT3
    go_wp2_with fail
    clear hsl hp hq0 hq1 hn hr0 hfi hla hrem
    go_loopw [105] (fun iv wr => ∃ i : Nat, i ≤ p ∧ iv = .int .i64 i ∧ ∃ S fp fq, PlayW w wr b c S fp fq n) (fun iv _ => p - (intOf iv).toNat)
    case atStart => exact ⟨0, Nat.zero_le _, rfl, _, _, _, HW4.out⟩
    case round =>
      obtain ⟨i, hi, rfl, S, fp, fq, hW⟩ := hrel
      clear HW4
      by_cases hlt : i < p
      · have hzi : i < zs.length := by have := HL.out; omega
        have hget := actsOfX_get (List.getElem?_eq_getElem hzi)
        have hRz := HR.out.keep hW.mods (fun _ _ => by simp)
        obtain ⟨bz, oz, rfl, hc0⟩ := hRz.at hget.1
        obtain ⟨bz', oz', hbz, hc1⟩ := hRz.at hget.2
        injection hbz with hbz
        injection hbz with hbz1 hbz2
        subst hbz1 hbz2
        generalize zs[i].1 = dn at *
        generalize zs[i].2 = k at *
        rw [← Nat.add_assoc] at hc1
        clear hget hRz
        obtain ⟨d0, hd0⟩ : ∃ d0 : Nat, (if (0 : Int) < dn then dn else 0) = (d0 : Int) := ⟨dn.toNat, by split <;> omega⟩
        obtain ⟨r, hr7⟩ : ∃ r : Nat, (d0 : Int) % 7 = (r : Int) := ⟨d0 % 7, by omega⟩
        have hr70 : r < 7 := by omega
        have HW := Lib.hid hW
        clear hW
        have hr7' : r = 0 ∨ r = 1 ∨ r = 2 ∨ r = 3 ∨ r = 4 ∨ r = 5 ∨ r = 6 := by omega
        obtain ⟨W6, hW6⟩ : ∃ W6 : World, W6 = wr.alloc (.cells #[.int .i64 dn, .int .i64 k] 66) := ⟨_, rfl⟩
        have hB6 : Blk W6 wr.heap.size 66 [.int .i64 dn, .int .i64 k] := by rw [hW6]; exact Blk.new wr 66 _
        have HP6 : Hid (PlayW w W6 b c S fp fq n) := by rw [hW6]; exact HW.out.alloc _
        have hnB : wr.heap.size ∉ fp ∧ wr.heap.size ∉ fq := ⟨fun h => by have := HW.out.sp.lt _ h; omega, fun h => by have := HW.out.rf.lt _ h; omega⟩
        have hsz6 : wr.heap.size < W6.heap.size := by rw [hW6]; simp
        have HT6 := Lib.hid (HT.out.keep HP6.out.mods (by simp))
        have hk6 := hB6.cell (i := 1) rfl
        have HB6 := Lib.hid hB6
        have HNB := Lib.hid hnB
        have HW6 := Lib.hid hW6
        clear hW6 hB6 hnB HL HW
        rcases hr7' with rfl | rfl | rfl | rfl | rfl | rfl | rfl
        · as_aux_lemma =>
            go_wp2_with fail
            rw [← HW6.out]
            refine (spTake_any HP6.out.sp HT6.out).mono ?_
            rintro e wa ⟨rfl, hma, hsa⟩
            have HRA := Lib.hid (rTake_any (HP6.out.ref hma) HP6.out.ok.low)
            have HMA := Lib.hid hma
            have HSA := Lib.hid hsa
            clear hma hsa
            go_wp2_with fail
            refine HRA.out.mono ?_
            rintro e wb ⟨rfl, hmb, hrb⟩
            have HP := Lib.hid (HP6.out.both HMA.out HSA.out (fun k hk => .inl hk) hmb hrb (fun k hk => .inl hk) (play_take HP6.out.ok))
            clear hmb hrb HRA HMA HSA hk6
            generalize S.takeE = tkE at *
            generalize nxK S.tk = tkK at *
            obtain ⟨S2, hS2⟩ : ∃ S2, S.takeS = S2 := ⟨_, rfl⟩
            obtain ⟨wX, hwX⟩ : ∃ wX, wb = wX := ⟨_, rfl⟩
            rw [hS2, hwX] at HP
            rw [hwX]
            clear hS2 hwX
            have HS := Lib.hid HP.out.sp
            have HO := Lib.hid HP.out.ok
            obtain ⟨bu, cu, hc0, hc4, hcell⟩ := HP.out.rf.seen
            have HCell := Lib.hid hcell
            have HC4 := Lib.hid hc4
            clear hcell hc4
            go_wp2_with fail
            clear hc0
            go_loopw [17, 26, 193] (fun ov fv kv wr => ∃ k f d : Nat, k ≤ n ∧ f ≤ k ∧ ov = .bool true ∧ fv = .int .i64 f ∧ kv = .int .i64 k ∧ Hid ((S2.used.take k).count false = f) ∧ wr = wX.drewN d) (fun _ _ kv _ => n - (intOf kv).toNat)
            case atStart => exact ⟨0, 0, 0, Nat.zero_le _, Nat.le_refl _, rfl, rfl, rfl, by simp [Hid], rfl⟩
            case round =>
              obtain ⟨k, f, d, hk, hf, rfl, rfl, rfl, hcnt, rfl⟩ := hrel
              by_cases hkn : k < n
              · have hcl := HCell.out k hkn
                have hku : k < S2.used.length := by rw [HO.out.used]; exact hkn
                have htc := take_count S2.used k hku
                rw [hcnt.out] at htc
                have hus := spUsed_any (HS.out.drewN d) (k : Int)
                rw [memI_nat] at hus
                obtain ⟨x, hx⟩ : ∃ x, mem S2.used k = x := ⟨_, rfl⟩
                rw [hx] at hcl htc hus
                have HUs := Lib.hid hus
                have HTc := Lib.hid htc
                clear hus htc hx hku hcnt
                cases x with
                | true =>
                  go_wp2_with fail
                  refine HUs.out.mono ?_
                  rintro e w' ⟨rfl, q, rfl⟩
                  go_wp2_with fail
                  go_roundw
                  case rel => exact ⟨k + 1, f, _, by omega, by omega, rfl, rfl, by go_num, by unfold Hid; rw [HTc.out]; rfl, rfl⟩
                  case measure => simp [intOf]; omega
                | false =>
                  go_wp2_with fail
                  refine HUs.out.mono ?_
                  rintro e w' ⟨rfl, q, rfl⟩
                  go_wp2_with fail
                  go_roundw
                  case rel => exact ⟨k + 1, f + 1, _, by omega, by omega, rfl, by go_num, by go_num, by unfold Hid; rw [HTc.out]; rfl, rfl⟩
                  case measure => simp [intOf]; omega
              · obtain rfl : k = n := by omega
                have hfull : S2.used.count false = f := by
                  have := hcnt.out
                  rw [List.take_of_length_le (by rw [HO.out.used]; exact Nat.le_refl _)] at this
                  exact this
                obtain ⟨mo1, mo2⟩ := memI_out HO.out.used
                have c4 : (wX.drewN d).cell? ⟨c, 4, none⟩ = some (.int .u64 S2.gen) := HC4.out
                have HPY := HP.out.drewN d
                clear HS HC4 HCell hcnt
                generalize wX.drewN d = wY at HPY c4 ⊢
                have hfr := fun (q : Nat) => spFree_any (HPY.sp.drewN q)
                have hgn := fun (q : Nat) => spGen_any (HPY.sp.drewN q)
                have hu := fun (v : Int) (hv : memI S2.used v = false) (q : Nat) => spUsed_no (HPY.sp.drewN q) hv
                rw [hfull] at hfr
                have HFr := Lib.hid hfr
                have HGn := Lib.hid hgn
                have HU := Lib.hid hu
                have M1 := Lib.hid mo1
                have M2 := Lib.hid mo2
                have HPy := Lib.hid HPY
                clear hfr hgn hu hfull mo1 mo2 HPY
                go_wp2_with fail
                go_quiet ((first | (go_at_call 31; exact Calls.quiet_of (HFr.out _)) | (go_at_call 26; exact Calls.quiet_of_same ((HGn.out _).mono fun e w' ⟨he, hw⟩ => ⟨he, hw.symm⟩)) | (go_at_call 41; exact Calls.quiet_of (HU.out _ (by with_reducible first | exact M1.out | exact M2.out) _))))
                go_wp2_with fail
                go_roundw
                case rel => exact ⟨i + 1, by omega, by go_num, _, _, _, HPy.out.drewN _⟩
                case measure => simp [intOf]; omega
        · as_aux_lemma =>
            go_wp2_with fail
            rw [← HW6.out]
            refine (spTake_any HP6.out.sp HT6.out).mono ?_
            rintro e wa ⟨rfl, hma, hsa⟩
            have HRA := Lib.hid (rTake_any (HP6.out.ref hma) HP6.out.ok.low)
            have HMA := Lib.hid hma
            have HSA := Lib.hid hsa
            clear hma hsa
            go_wp2_with fail
            refine HRA.out.mono ?_
            rintro e wb ⟨rfl, hmb, hrb⟩
            have HP := Lib.hid (HP6.out.both HMA.out HSA.out (fun k hk => .inl hk) hmb hrb (fun k hk => .inl hk) (play_take HP6.out.ok))
            clear hmb hrb HRA HMA HSA hk6
            generalize S.takeE = tkE at *
            generalize nxK S.tk = tkK at *
            obtain ⟨S2, hS2⟩ : ∃ S2, S.takeS = S2 := ⟨_, rfl⟩
            obtain ⟨wX, hwX⟩ : ∃ wX, wb = wX := ⟨_, rfl⟩
            rw [hS2, hwX] at HP
            rw [hwX]
            clear hS2 hwX
            have HS := Lib.hid HP.out.sp
            have HO := Lib.hid HP.out.ok
            obtain ⟨bu, cu, hc0, hc4, hcell⟩ := HP.out.rf.seen
            have HCell := Lib.hid hcell
            have HC4 := Lib.hid hc4
            clear hcell hc4
            go_wp2_with fail
            clear hc0
            go_loopw [17, 26, 193] (fun ov fv kv wr => ∃ k f d : Nat, k ≤ n ∧ f ≤ k ∧ ov = .bool true ∧ fv = .int .i64 f ∧ kv = .int .i64 k ∧ Hid ((S2.used.take k).count false = f) ∧ wr = wX.drewN d) (fun _ _ kv _ => n - (intOf kv).toNat)
            case atStart => exact ⟨0, 0, 0, Nat.zero_le _, Nat.le_refl _, rfl, rfl, rfl, by simp [Hid], rfl⟩
            case round =>
              obtain ⟨k, f, d, hk, hf, rfl, rfl, rfl, hcnt, rfl⟩ := hrel
              by_cases hkn : k < n
              · have hcl := HCell.out k hkn
                have hku : k < S2.used.length := by rw [HO.out.used]; exact hkn
                have htc := take_count S2.used k hku
                rw [hcnt.out] at htc
                have hus := spUsed_any (HS.out.drewN d) (k : Int)
                rw [memI_nat] at hus
                obtain ⟨x, hx⟩ : ∃ x, mem S2.used k = x := ⟨_, rfl⟩
                rw [hx] at hcl htc hus
                have HUs := Lib.hid hus
                have HTc := Lib.hid htc
                clear hus htc hx hku hcnt
                cases x with
                | true =>
                  go_wp2_with fail
                  refine HUs.out.mono ?_
                  rintro e w' ⟨rfl, q, rfl⟩
                  go_wp2_with fail
                  go_roundw
                  case rel => exact ⟨k + 1, f, _, by omega, by omega, rfl, rfl, by go_num, by unfold Hid; rw [HTc.out]; rfl, rfl⟩
                  case measure => simp [intOf]; omega
                | false =>
                  go_wp2_with fail
                  refine HUs.out.mono ?_
                  rintro e w' ⟨rfl, q, rfl⟩
                  go_wp2_with fail
                  go_roundw
                  case rel => exact ⟨k + 1, f + 1, _, by omega, by omega, rfl, by go_num, by go_num, by unfold Hid; rw [HTc.out]; rfl, rfl⟩
                  case measure => simp [intOf]; omega
              · obtain rfl : k = n := by omega
                have hfull : S2.used.count false = f := by
                  have := hcnt.out
                  rw [List.take_of_length_le (by rw [HO.out.used]; exact Nat.le_refl _)] at this
                  exact this
                obtain ⟨mo1, mo2⟩ := memI_out HO.out.used
                have c4 : (wX.drewN d).cell? ⟨c, 4, none⟩ = some (.int .u64 S2.gen) := HC4.out
                have HPY := HP.out.drewN d
                clear HS HC4 HCell hcnt
                generalize wX.drewN d = wY at HPY c4 ⊢
                have hfr := fun (q : Nat) => spFree_any (HPY.sp.drewN q)
                have hgn := fun (q : Nat) => spGen_any (HPY.sp.drewN q)
                have hu := fun (v : Int) (hv : memI S2.used v = false) (q : Nat) => spUsed_no (HPY.sp.drewN q) hv
                rw [hfull] at hfr
                have HFr := Lib.hid hfr
                have HGn := Lib.hid hgn
                have HU := Lib.hid hu
                have M1 := Lib.hid mo1
                have M2 := Lib.hid mo2
                have HPy := Lib.hid HPY
                clear hfr hgn hu hfull mo1 mo2 HPY
                go_wp2_with fail
                go_quiet ((first | (go_at_call 31; exact Calls.quiet_of (HFr.out _)) | (go_at_call 26; exact Calls.quiet_of_same ((HGn.out _).mono fun e w' ⟨he, hw⟩ => ⟨he, hw.symm⟩)) | (go_at_call 41; exact Calls.quiet_of (HU.out _ (by with_reducible first | exact M1.out | exact M2.out) _))))
                go_wp2_with fail
                go_roundw
                case rel => exact ⟨i + 1, by omega, by go_num, _, _, _, HPy.out.drewN _⟩
                case measure => simp [intOf]; omega
        · as_aux_lemma =>
            go_wp2_with fail
            rw [← HW6.out]
            have hsz7 : wr.heap.size < (W6.drewN 1).heap.size := hsz6
            go_region_held3 (fun w' => w'.cell? ⟨wr.heap.size, 1, none⟩ = some (.int .i64 k))
              (first | go_keep | exact cell_keep1 hma hk6 hsz7 HNB.out.1 | exact cell_keep1 hmb hk6 hsz7 HNB.out.2 | exact cell_keep2 hma hmb hk6 hsz7 HNB.out.1 HNB.out.2 | exact cell_keep2 hmb hma hk6 hsz7 HNB.out.2 HNB.out.1)
              ((first | (go_at_call 28; refine (spGive_any (by first | exact HP6.out.sp | exact (HP6.out.drewN 1).spc hmb) k).mono ?_; rintro e wa ⟨rfl, hma, hsa⟩) | (go_at_call 35; refine (rGive_any (by first | exact HP6.out.rf | exact (HP6.out.drewN 1).ref hma) k).mono ?_; rintro e wb ⟨rfl, hmb, hrb⟩)))
            all_goals
              first
                | (have HP : Hid (PlayW w wb b c (S.giveS k) fp fq n) := (HP6.out.drewN 1).both hma hsa (fun k hk => .inl hk) hmb hrb (fun k hk => .inl hk) (play_give HP6.out.ok k)
                   obtain ⟨wX, hwX⟩ : ∃ wX, wb = wX := ⟨_, rfl⟩)
                | (have HP : Hid (PlayW w wa b c (S.giveS k) fp fq n) := (HP6.out.drewN 1).both2 hmb hrb hma hsa (play_give HP6.out.ok k)
                   obtain ⟨wX, hwX⟩ : ∃ wX, wa = wX := ⟨_, rfl⟩)
              obtain ⟨S2, hS2⟩ : ∃ S2, S.giveS k = S2 := ⟨_, rfl⟩
              rw [hS2, hwX] at HP
              rw [hwX]
              clear hS2 hwX hma hsa hmb hrb hk6 hsz7
              generalize S.giveE k = tkE at *
              have HS := Lib.hid HP.out.sp
              have HO := Lib.hid HP.out.ok
              obtain ⟨bu, cu, hc0, hc4, hcell⟩ := HP.out.rf.seen
              have HCell := Lib.hid hcell
              have HC4 := Lib.hid hc4
              clear hcell hc4
              go_wp2_with fail
              clear hc0
              go_loopw [17, 26, 193] (fun ov fv kv wr => ∃ k f d : Nat, k ≤ n ∧ f ≤ k ∧ ov = .bool true ∧ fv = .int .i64 f ∧ kv = .int .i64 k ∧ Hid ((S2.used.take k).count false = f) ∧ wr = wX.drewN d) (fun _ _ kv _ => n - (intOf kv).toNat)
              case atStart => exact ⟨0, 0, 0, Nat.zero_le _, Nat.le_refl _, rfl, rfl, rfl, by simp [Hid], rfl⟩
              case round =>
                obtain ⟨k, f, d, hk, hf, rfl, rfl, rfl, hcnt, rfl⟩ := hrel
                by_cases hkn : k < n
                · have hcl := HCell.out k hkn
                  have hku : k < S2.used.length := by rw [HO.out.used]; exact hkn
                  have htc := take_count S2.used k hku
                  rw [hcnt.out] at htc
                  have hus := spUsed_any (HS.out.drewN d) (k : Int)
                  rw [memI_nat] at hus
                  obtain ⟨x, hx⟩ : ∃ x, mem S2.used k = x := ⟨_, rfl⟩
                  rw [hx] at hcl htc hus
                  have HUs := Lib.hid hus
                  have HTc := Lib.hid htc
                  clear hus htc hx hku hcnt
                  cases x with
                  | true =>
                    go_wp2_with fail
                    refine HUs.out.mono ?_
                    rintro e w' ⟨rfl, q, rfl⟩
                    go_wp2_with fail
                    go_roundw
                    case rel => exact ⟨k + 1, f, _, by omega, by omega, rfl, rfl, by go_num, by unfold Hid; rw [HTc.out]; rfl, rfl⟩
                    case measure => simp [intOf]; omega
                  | false =>
                    go_wp2_with fail
                    refine HUs.out.mono ?_
                    rintro e w' ⟨rfl, q, rfl⟩
                    go_wp2_with fail
                    go_roundw
                    case rel => exact ⟨k + 1, f + 1, _, by omega, by omega, rfl, by go_num, by go_num, by unfold Hid; rw [HTc.out]; rfl, rfl⟩
                    case measure => simp [intOf]; omega
                · obtain rfl : k = n := by omega
                  have hfull : S2.used.count false = f := by
                    have := hcnt.out
                    rw [List.take_of_length_le (by rw [HO.out.used]; exact Nat.le_refl _)] at this
                    exact this
                  obtain ⟨mo1, mo2⟩ := memI_out HO.out.used
                  have c4 : (wX.drewN d).cell? ⟨c, 4, none⟩ = some (.int .u64 S2.gen) := HC4.out
                  have HPY := HP.out.drewN d
                  clear HS HC4 HCell hcnt
                  generalize wX.drewN d = wY at HPY c4 ⊢
                  have hfr := fun (q : Nat) => spFree_any (HPY.sp.drewN q)
                  have hgn := fun (q : Nat) => spGen_any (HPY.sp.drewN q)
                  have hu := fun (v : Int) (hv : memI S2.used v = false) (q : Nat) => spUsed_no (HPY.sp.drewN q) hv
                  rw [hfull] at hfr
                  have HFr := Lib.hid hfr
                  have HGn := Lib.hid hgn
                  have HU := Lib.hid hu
                  have M1 := Lib.hid mo1
                  have M2 := Lib.hid mo2
                  have HPy := Lib.hid HPY
                  clear hfr hgn hu hfull mo1 mo2 HPY
                  go_wp2_with fail
                  go_quiet ((first | (go_at_call 31; exact Calls.quiet_of (HFr.out _)) | (go_at_call 26; exact Calls.quiet_of_same ((HGn.out _).mono fun e w' ⟨he, hw⟩ => ⟨he, hw.symm⟩)) | (go_at_call 41; exact Calls.quiet_of (HU.out _ (by with_reducible first | exact M1.out | exact M2.out) _))))
                  go_wp2_with fail
                  go_roundw
                  case rel => exact ⟨i + 1, by omega, by go_num, _, _, _, HPy.out.drewN _⟩
                  case measure => simp [intOf]; omega
        · as_aux_lemma =>
            go_wp2_with fail
            rw [← HW6.out]
            have hsz7 : wr.heap.size < (W6.drewN 1).heap.size := hsz6
            go_region_held3 (fun w' => w'.cell? ⟨wr.heap.size, 1, none⟩ = some (.int .i64 k))
              (first | go_keep | exact cell_keep1 hma hk6 hsz7 HNB.out.1 | exact cell_keep1 hmb hk6 hsz7 HNB.out.2 | exact cell_keep2 hma hmb hk6 hsz7 HNB.out.1 HNB.out.2 | exact cell_keep2 hmb hma hk6 hsz7 HNB.out.2 HNB.out.1)
              ((first | (go_at_call 36; refine (spUse_any (by first | exact HP6.out.sp | exact (HP6.out.drewN 1).spc hmb) k).mono ?_; rintro e wa ⟨rfl, hma, hsa⟩) | (go_at_call 37; refine (rUse_any (by first | exact HP6.out.rf | exact (HP6.out.drewN 1).ref hma) k).mono ?_; rintro e wb ⟨rfl, hmb, hrb⟩)))
            all_goals
              first
                | (have HP : Hid (PlayW w wb b c (S.useS k) fp fq n) := (HP6.out.drewN 1).both hma hsa (fun k hk => .inl hk) hmb hrb (fun k hk => .inl hk) (play_use HP6.out.ok k)
                   obtain ⟨wX, hwX⟩ : ∃ wX, wb = wX := ⟨_, rfl⟩)
                | (have HP : Hid (PlayW w wa b c (S.useS k) fp fq n) := (HP6.out.drewN 1).both2 hmb hrb hma hsa (play_use HP6.out.ok k)
                   obtain ⟨wX, hwX⟩ : ∃ wX, wa = wX := ⟨_, rfl⟩)
              obtain ⟨S2, hS2⟩ : ∃ S2, S.useS k = S2 := ⟨_, rfl⟩
              rw [hS2, hwX] at HP
              rw [hwX]
              clear hS2 hwX hma hsa hmb hrb hk6 hsz7
              generalize S.useE k = tkE at *
              have HS := Lib.hid HP.out.sp
              have HO := Lib.hid HP.out.ok
              obtain ⟨bu, cu, hc0, hc4, hcell⟩ := HP.out.rf.seen
              have HCell := Lib.hid hcell
              have HC4 := Lib.hid hc4
              clear hcell hc4
              go_wp2_with fail
              clear hc0
              go_loopw [17, 26, 193] (fun ov fv kv wr => ∃ k f d : Nat, k ≤ n ∧ f ≤ k ∧ ov = .bool true ∧ fv = .int .i64 f ∧ kv = .int .i64 k ∧ Hid ((S2.used.take k).count false = f) ∧ wr = wX.drewN d) (fun _ _ kv _ => n - (intOf kv).toNat)
              case atStart => exact ⟨0, 0, 0, Nat.zero_le _, Nat.le_refl _, rfl, rfl, rfl, by simp [Hid], rfl⟩
              case round =>
                obtain ⟨k, f, d, hk, hf, rfl, rfl, rfl, hcnt, rfl⟩ := hrel
                by_cases hkn : k < n
                · have hcl := HCell.out k hkn
                  have hku : k < S2.used.length := by rw [HO.out.used]; exact hkn
                  have htc := take_count S2.used k hku
                  rw [hcnt.out] at htc
                  have hus := spUsed_any (HS.out.drewN d) (k : Int)
                  rw [memI_nat] at hus
                  obtain ⟨x, hx⟩ : ∃ x, mem S2.used k = x := ⟨_, rfl⟩
                  rw [hx] at hcl htc hus
                  have HUs := Lib.hid hus
                  have HTc := Lib.hid htc
                  clear hus htc hx hku hcnt
                  cases x with
                  | true =>
                    go_wp2_with fail
                    refine HUs.out.mono ?_
                    rintro e w' ⟨rfl, q, rfl⟩
                    go_wp2_with fail
                    go_roundw
                    case rel => exact ⟨k + 1, f, _, by omega, by omega, rfl, rfl, by go_num, by unfold Hid; rw [HTc.out]; rfl, rfl⟩
                    case measure => simp [intOf]; omega
                  | false =>
                    go_wp2_with fail
                    refine HUs.out.mono ?_
                    rintro e w' ⟨rfl, q, rfl⟩
                    go_wp2_with fail
                    go_roundw
                    case rel => exact ⟨k + 1, f + 1, _, by omega, by omega, rfl, by go_num, by go_num, by unfold Hid; rw [HTc.out]; rfl, rfl⟩
                    case measure => simp [intOf]; omega
                · obtain rfl : k = n := by omega
                  have hfull : S2.used.count false = f := by
                    have := hcnt.out
                    rw [List.take_of_length_le (by rw [HO.out.used]; exact Nat.le_refl _)] at this
                    exact this
                  obtain ⟨mo1, mo2⟩ := memI_out HO.out.used
                  have c4 : (wX.drewN d).cell? ⟨c, 4, none⟩ = some (.int .u64 S2.gen) := HC4.out
                  have HPY := HP.out.drewN d
                  clear HS HC4 HCell hcnt
                  generalize wX.drewN d = wY at HPY c4 ⊢
                  have hfr := fun (q : Nat) => spFree_any (HPY.sp.drewN q)
                  have hgn := fun (q : Nat) => spGen_any (HPY.sp.drewN q)
                  have hu := fun (v : Int) (hv : memI S2.used v = false) (q : Nat) => spUsed_no (HPY.sp.drewN q) hv
                  rw [hfull] at hfr
                  have HFr := Lib.hid hfr
                  have HGn := Lib.hid hgn
                  have HU := Lib.hid hu
                  have M1 := Lib.hid mo1
                  have M2 := Lib.hid mo2
                  have HPy := Lib.hid HPY
                  clear hfr hgn hu hfull mo1 mo2 HPY
                  go_wp2_with fail
                  go_quiet ((first | (go_at_call 31; exact Calls.quiet_of (HFr.out _)) | (go_at_call 26; exact Calls.quiet_of_same ((HGn.out _).mono fun e w' ⟨he, hw⟩ => ⟨he, hw.symm⟩)) | (go_at_call 41; exact Calls.quiet_of (HU.out _ (by with_reducible first | exact M1.out | exact M2.out) _))))
                  go_wp2_with fail
                  go_roundw
                  case rel => exact ⟨i + 1, by omega, by go_num, _, _, _, HPy.out.drewN _⟩
                  case measure => simp [intOf]; omega
        · as_aux_lemma =>
            go_wp2_with fail
            rw [← HW6.out]
            refine (spSettle_any HP6.out.sp HT6.out).mono ?_
            rintro e wa ⟨rfl, hma, fp1, hsa, hfa⟩
            have HRA := Lib.hid (rSettle_any (HP6.out.ref hma))
            have HMA := Lib.hid hma
            have HSA := Lib.hid hsa
            have HFA := Lib.hid hfa
            clear hma hsa hfa
            go_wp2_with fail
            refine HRA.out.mono ?_
            rintro e wb ⟨rfl, hmb, fq1, hrb, hfb⟩
            have HP := Lib.hid (HP6.out.both HMA.out HSA.out HFA.out hmb hrb hfb (play_free HP6.out.ok HP6.out.ok.gv))
            clear hmb hrb hfb HRA HMA HSA HFA hk6
            obtain ⟨S2, hS2⟩ : ∃ S2, S.settleS = S2 := ⟨_, rfl⟩
            obtain ⟨wX, hwX⟩ : ∃ wX, wb = wX := ⟨_, rfl⟩
            rw [hS2, hwX] at HP
            rw [hwX]
            clear hS2 hwX
            have HS := Lib.hid HP.out.sp
            have HO := Lib.hid HP.out.ok
            obtain ⟨bu, cu, hc0, hc4, hcell⟩ := HP.out.rf.seen
            have HCell := Lib.hid hcell
            have HC4 := Lib.hid hc4
            clear hcell hc4
            go_wp2_with fail
            clear hc0
            go_loopw [17, 26, 193] (fun ov fv kv wr => ∃ k f d : Nat, k ≤ n ∧ f ≤ k ∧ ov = .bool true ∧ fv = .int .i64 f ∧ kv = .int .i64 k ∧ Hid ((S2.used.take k).count false = f) ∧ wr = wX.drewN d) (fun _ _ kv _ => n - (intOf kv).toNat)
            case atStart => exact ⟨0, 0, 0, Nat.zero_le _, Nat.le_refl _, rfl, rfl, rfl, by simp [Hid], rfl⟩
            case round =>
              obtain ⟨k, f, d, hk, hf, rfl, rfl, rfl, hcnt, rfl⟩ := hrel
              by_cases hkn : k < n
              · have hcl := HCell.out k hkn
                have hku : k < S2.used.length := by rw [HO.out.used]; exact hkn
                have htc := take_count S2.used k hku
                rw [hcnt.out] at htc
                have hus := spUsed_any (HS.out.drewN d) (k : Int)
                rw [memI_nat] at hus
                obtain ⟨x, hx⟩ : ∃ x, mem S2.used k = x := ⟨_, rfl⟩
                rw [hx] at hcl htc hus
                have HUs := Lib.hid hus
                have HTc := Lib.hid htc
                clear hus htc hx hku hcnt
                cases x with
                | true =>
                  go_wp2_with fail
                  refine HUs.out.mono ?_
                  rintro e w' ⟨rfl, q, rfl⟩
                  go_wp2_with fail
                  go_roundw
                  case rel => exact ⟨k + 1, f, _, by omega, by omega, rfl, rfl, by go_num, by unfold Hid; rw [HTc.out]; rfl, rfl⟩
                  case measure => simp [intOf]; omega
                | false =>
                  go_wp2_with fail
                  refine HUs.out.mono ?_
                  rintro e w' ⟨rfl, q, rfl⟩
                  go_wp2_with fail
                  go_roundw
                  case rel => exact ⟨k + 1, f + 1, _, by omega, by omega, rfl, by go_num, by go_num, by unfold Hid; rw [HTc.out]; rfl, rfl⟩
                  case measure => simp [intOf]; omega
              · obtain rfl : k = n := by omega
                have hfull : S2.used.count false = f := by
                  have := hcnt.out
                  rw [List.take_of_length_le (by rw [HO.out.used]; exact Nat.le_refl _)] at this
                  exact this
                obtain ⟨mo1, mo2⟩ := memI_out HO.out.used
                have c4 : (wX.drewN d).cell? ⟨c, 4, none⟩ = some (.int .u64 S2.gen) := HC4.out
                have HPY := HP.out.drewN d
                clear HS HC4 HCell hcnt
                generalize wX.drewN d = wY at HPY c4 ⊢
                have hfr := fun (q : Nat) => spFree_any (HPY.sp.drewN q)
                have hgn := fun (q : Nat) => spGen_any (HPY.sp.drewN q)
                have hu := fun (v : Int) (hv : memI S2.used v = false) (q : Nat) => spUsed_no (HPY.sp.drewN q) hv
                rw [hfull] at hfr
                have HFr := Lib.hid hfr
                have HGn := Lib.hid hgn
                have HU := Lib.hid hu
                have M1 := Lib.hid mo1
                have M2 := Lib.hid mo2
                have HPy := Lib.hid HPY
                clear hfr hgn hu hfull mo1 mo2 HPY
                go_wp2_with fail
                go_quiet ((first | (go_at_call 31; exact Calls.quiet_of (HFr.out _)) | (go_at_call 26; exact Calls.quiet_of_same ((HGn.out _).mono fun e w' ⟨he, hw⟩ => ⟨he, hw.symm⟩)) | (go_at_call 41; exact Calls.quiet_of (HU.out _ (by with_reducible first | exact M1.out | exact M2.out) _))))
                go_wp2_with fail
                go_roundw
                case rel => exact ⟨i + 1, by omega, by go_num, _, _, _, HPy.out.drewN _⟩
                case measure => simp [intOf]; omega
        · as_aux_lemma =>
            go_wp2_with fail
            rw [← HW6.out]
            refine (spUndo_any HP6.out.sp HT6.out).mono ?_
            rintro e wa ⟨rfl, hma, fp1, hsa, hfa⟩
            have HRA := Lib.hid (rUndo_any (HP6.out.ref hma))
            have HMA := Lib.hid hma
            have HSA := Lib.hid hsa
            have HFA := Lib.hid hfa
            clear hma hsa hfa
            go_wp2_with fail
            refine HRA.out.mono ?_
            rintro e wb ⟨rfl, hmb, fq1, hrb, hfb⟩
            have HP := Lib.hid (HP6.out.both HMA.out HSA.out HFA.out hmb hrb hfb (play_free HP6.out.ok HP6.out.ok.tk))
            clear hmb hrb hfb HRA HMA HSA HFA hk6
            obtain ⟨S2, hS2⟩ : ∃ S2, S.undoS = S2 := ⟨_, rfl⟩
            obtain ⟨wX, hwX⟩ : ∃ wX, wb = wX := ⟨_, rfl⟩
            rw [hS2, hwX] at HP
            rw [hwX]
            clear hS2 hwX
            have HS := Lib.hid HP.out.sp
            have HO := Lib.hid HP.out.ok
            obtain ⟨bu, cu, hc0, hc4, hcell⟩ := HP.out.rf.seen
            have HCell := Lib.hid hcell
            have HC4 := Lib.hid hc4
            clear hcell hc4
            go_wp2_with fail
            clear hc0
            go_loopw [17, 26, 193] (fun ov fv kv wr => ∃ k f d : Nat, k ≤ n ∧ f ≤ k ∧ ov = .bool true ∧ fv = .int .i64 f ∧ kv = .int .i64 k ∧ Hid ((S2.used.take k).count false = f) ∧ wr = wX.drewN d) (fun _ _ kv _ => n - (intOf kv).toNat)
            case atStart => exact ⟨0, 0, 0, Nat.zero_le _, Nat.le_refl _, rfl, rfl, rfl, by simp [Hid], rfl⟩
            case round =>
              obtain ⟨k, f, d, hk, hf, rfl, rfl, rfl, hcnt, rfl⟩ := hrel
              by_cases hkn : k < n
              · have hcl := HCell.out k hkn
                have hku : k < S2.used.length := by rw [HO.out.used]; exact hkn
                have htc := take_count S2.used k hku
                rw [hcnt.out] at htc
                have hus := spUsed_any (HS.out.drewN d) (k : Int)
                rw [memI_nat] at hus
                obtain ⟨x, hx⟩ : ∃ x, mem S2.used k = x := ⟨_, rfl⟩
                rw [hx] at hcl htc hus
                have HUs := Lib.hid hus
                have HTc := Lib.hid htc
                clear hus htc hx hku hcnt
                cases x with
                | true =>
                  go_wp2_with fail
                  refine HUs.out.mono ?_
                  rintro e w' ⟨rfl, q, rfl⟩
                  go_wp2_with fail
                  go_roundw
                  case rel => exact ⟨k + 1, f, _, by omega, by omega, rfl, rfl, by go_num, by unfold Hid; rw [HTc.out]; rfl, rfl⟩
                  case measure => simp [intOf]; omega
                | false =>
                  go_wp2_with fail
                  refine HUs.out.mono ?_
                  rintro e w' ⟨rfl, q, rfl⟩
                  go_wp2_with fail
                  go_roundw
                  case rel => exact ⟨k + 1, f + 1, _, by omega, by omega, rfl, by go_num, by go_num, by unfold Hid; rw [HTc.out]; rfl, rfl⟩
                  case measure => simp [intOf]; omega
              · obtain rfl : k = n := by omega
                have hfull : S2.used.count false = f := by
                  have := hcnt.out
                  rw [List.take_of_length_le (by rw [HO.out.used]; exact Nat.le_refl _)] at this
                  exact this
                obtain ⟨mo1, mo2⟩ := memI_out HO.out.used
                have c4 : (wX.drewN d).cell? ⟨c, 4, none⟩ = some (.int .u64 S2.gen) := HC4.out
                have HPY := HP.out.drewN d
                clear HS HC4 HCell hcnt
                generalize wX.drewN d = wY at HPY c4 ⊢
                have hfr := fun (q : Nat) => spFree_any (HPY.sp.drewN q)
                have hgn := fun (q : Nat) => spGen_any (HPY.sp.drewN q)
                have hu := fun (v : Int) (hv : memI S2.used v = false) (q : Nat) => spUsed_no (HPY.sp.drewN q) hv
                rw [hfull] at hfr
                have HFr := Lib.hid hfr
                have HGn := Lib.hid hgn
                have HU := Lib.hid hu
                have M1 := Lib.hid mo1
                have M2 := Lib.hid mo2
                have HPy := Lib.hid HPY
                clear hfr hgn hu hfull mo1 mo2 HPY
                go_wp2_with fail
                go_quiet ((first | (go_at_call 31; exact Calls.quiet_of (HFr.out _)) | (go_at_call 26; exact Calls.quiet_of_same ((HGn.out _).mono fun e w' ⟨he, hw⟩ => ⟨he, hw.symm⟩)) | (go_at_call 41; exact Calls.quiet_of (HU.out _ (by with_reducible first | exact M1.out | exact M2.out) _))))
                go_wp2_with fail
                go_roundw
                case rel => exact ⟨i + 1, by omega, by go_num, _, _, _, HPy.out.drewN _⟩
                case measure => simp [intOf]; omega
        · as_aux_lemma =>
            go_wp2_with fail
            rw [← HW6.out]
            refine (spStep_any HP6.out.sp).mono ?_
            rintro e wa ⟨rfl, hma, hsa⟩
            have HRA := Lib.hid (rStep_any (HP6.out.ref hma) HP6.out.sp.ok.gen HP6.out.sp.ok.last)
            have HMA := Lib.hid hma
            have HSA := Lib.hid hsa
            clear hma hsa
            go_wp2_with fail
            refine HRA.out.mono ?_
            rintro e wb ⟨rfl, hmb, hrb⟩
            have HP := Lib.hid (HP6.out.both HMA.out HSA.out (fun k hk => .inl hk) hmb hrb (fun k hk => .inl hk) (play_step HP6.out.ok))
            clear hmb hrb HRA HMA HSA hk6
            generalize S.stepE = tkE at *
            generalize S.stepG = tkK at *
            obtain ⟨S2, hS2⟩ : ∃ S2, S.step = S2 := ⟨_, rfl⟩
            obtain ⟨wX, hwX⟩ : ∃ wX, wb = wX := ⟨_, rfl⟩
            rw [hS2, hwX] at HP
            rw [hwX]
            clear hS2 hwX
            have HS := Lib.hid HP.out.sp
            have HO := Lib.hid HP.out.ok
            obtain ⟨bu, cu, hc0, hc4, hcell⟩ := HP.out.rf.seen
            have HCell := Lib.hid hcell
            have HC4 := Lib.hid hc4
            clear hcell hc4
            go_wp2_with fail
            clear hc0
            go_loopw [17, 26, 193] (fun ov fv kv wr => ∃ k f d : Nat, k ≤ n ∧ f ≤ k ∧ ov = .bool true ∧ fv = .int .i64 f ∧ kv = .int .i64 k ∧ Hid ((S2.used.take k).count false = f) ∧ wr = wX.drewN d) (fun _ _ kv _ => n - (intOf kv).toNat)
            case atStart => exact ⟨0, 0, 0, Nat.zero_le _, Nat.le_refl _, rfl, rfl, rfl, by simp [Hid], rfl⟩
            case round =>
              obtain ⟨k, f, d, hk, hf, rfl, rfl, rfl, hcnt, rfl⟩ := hrel
              by_cases hkn : k < n
              · have hcl := HCell.out k hkn
                have hku : k < S2.used.length := by rw [HO.out.used]; exact hkn
                have htc := take_count S2.used k hku
                rw [hcnt.out] at htc
                have hus := spUsed_any (HS.out.drewN d) (k : Int)
                rw [memI_nat] at hus
                obtain ⟨x, hx⟩ : ∃ x, mem S2.used k = x := ⟨_, rfl⟩
                rw [hx] at hcl htc hus
                have HUs := Lib.hid hus
                have HTc := Lib.hid htc
                clear hus htc hx hku hcnt
                cases x with
                | true =>
                  go_wp2_with fail
                  refine HUs.out.mono ?_
                  rintro e w' ⟨rfl, q, rfl⟩
                  go_wp2_with fail
                  go_roundw
                  case rel => exact ⟨k + 1, f, _, by omega, by omega, rfl, rfl, by go_num, by unfold Hid; rw [HTc.out]; rfl, rfl⟩
                  case measure => simp [intOf]; omega
                | false =>
                  go_wp2_with fail
                  refine HUs.out.mono ?_
                  rintro e w' ⟨rfl, q, rfl⟩
                  go_wp2_with fail
                  go_roundw
                  case rel => exact ⟨k + 1, f + 1, _, by omega, by omega, rfl, by go_num, by go_num, by unfold Hid; rw [HTc.out]; rfl, rfl⟩
                  case measure => simp [intOf]; omega
              · obtain rfl : k = n := by omega
                have hfull : S2.used.count false = f := by
                  have := hcnt.out
                  rw [List.take_of_length_le (by rw [HO.out.used]; exact Nat.le_refl _)] at this
                  exact this
                obtain ⟨mo1, mo2⟩ := memI_out HO.out.used
                have c4 : (wX.drewN d).cell? ⟨c, 4, none⟩ = some (.int .u64 S2.gen) := HC4.out
                have HPY := HP.out.drewN d
                clear HS HC4 HCell hcnt
                generalize wX.drewN d = wY at HPY c4 ⊢
                have hfr := fun (q : Nat) => spFree_any (HPY.sp.drewN q)
                have hgn := fun (q : Nat) => spGen_any (HPY.sp.drewN q)
                have hu := fun (v : Int) (hv : memI S2.used v = false) (q : Nat) => spUsed_no (HPY.sp.drewN q) hv
                rw [hfull] at hfr
                have HFr := Lib.hid hfr
                have HGn := Lib.hid hgn
                have HU := Lib.hid hu
                have M1 := Lib.hid mo1
                have M2 := Lib.hid mo2
                have HPy := Lib.hid HPY
                clear hfr hgn hu hfull mo1 mo2 HPY
                go_wp2_with fail
                go_quiet ((first | (go_at_call 31; exact Calls.quiet_of (HFr.out _)) | (go_at_call 26; exact Calls.quiet_of_same ((HGn.out _).mono fun e w' ⟨he, hw⟩ => ⟨he, hw.symm⟩)) | (go_at_call 41; exact Calls.quiet_of (HU.out _ (by with_reducible first | exact M1.out | exact M2.out) _))))
                go_wp2_with fail
                go_roundw
                case rel => exact ⟨i + 1, by omega, by go_num, _, _, _, HPy.out.drewN _⟩
                case measure => simp [intOf]; omega
      · obtain rfl : i = p := by omega
        have HM := Lib.hid hW.mods
        clear hW
        go_wp2_with fail
        go_ret
        exact ⟨rfl, HM.out⟩
theorem readables_spacePlays : ∀ t ∈ (#[31, 60, 61] : Array TypeId).toList, Tryd.prog.readableRec t = true ∧ t < Tryd.prog.types.size := by
  intro t ht
  simp only [List.mem_cons, List.not_mem_nil, or_false] at ht
  rcases ht with rfl | rfl | rfl
  all_goals exact ⟨by kernel_rfl, of_decide_eq_true (by kernel_rfl)⟩
theorem standIns_spacePlays (j : Nat) (t : TypeId) (ht : (#[31, 60, 61] : Array TypeId)[j]? = some t) : Tryd.pinned.checked.prog.wantsStandIn t = false := by
  have hm := Array.mem_of_getElem? ht
  simp only [List.mem_toArray, List.mem_cons, List.not_mem_nil, or_false] at hm
  rcases hm with rfl | rfl | rfl
  · exact (show Tryd.prog.wantsStandIn 31 = false by kernel_rfl)
  · exact (show Tryd.prog.wantsStandIn 60 = false by kernel_rfl)
  · exact (show Tryd.prog.wantsStandIn 61 = false by kernel_rfl)

theorem spacePlays_contract (H : Type) (enc : TypeId × Value → H) (W : World) (base : Nat) (args : Array Value) (ds gs : List (DataW H)) (before : List MemPlace)
    (hval : ∀ (j : Nat) t v, Tryd.f9.params[j]? = some t → args[j]? = some v → Value.okWide Tryd.prog W .any base t v)
    (hW : DataW.Whole enc Tryd.prog Tryd.f9.params.toList Rows.spacePlaysSpec.vars false W args.toList ds gs before) (hL : laidMetH Tryd.prog laidVars W) :
    Calls Tryd.prog 9 args W fun e W' => ∃ v, e = .returned v ∧ Rows.spacePlaysSpec.post enc Tryd.prog Tryd.f9 false true false false W args v W' := by
  have hW' := hW
  obtain ⟨p, q, hA0, hV, he, hfz, hnd⟩ := hW
  have hA : DataW.TrodAll enc Tryd.prog W 0 (fun _ => true) true Tryd.f9.params.toList args.toList ds p := hA0
  rw [Tryd.params9] at hA hval
  obtain ⟨v0, vs0, d0, ds0, p0, q0, hargs, rfl, rfl, h0, r0⟩ := trodAll_cons hA
  obtain ⟨v1, vs1, d1, ds1, p1, q1, rfl, rfl, rfl, h1, r1⟩ := trodAll_cons r0
  obtain ⟨v2, vs2, d2, ds2, p2, q2, rfl, rfl, rfl, h2, r2⟩ := trodAll_cons r1
  obtain ⟨rfl, rfl, rfl⟩ := trodAll_nil r2
  obtain rfl : args = #[v0, v1, v2] := by cases args; simp_all
  obtain ⟨x0, x1, rfl, rfl, rfl, wx0, wx1⟩ := arr2_open Tryd.underlying31 Tryd.underlying3 (by kernel_rfl) (by kernel_rfl) (hval 0 31 v0 rfl rfl) h0
  obtain ⟨g0', g1', rfl, rfl, rfl, wg0, wg1⟩ := arr2_open Tryd.underlying60 Tryd.underlying48 (by kernel_rfl) (by kernel_rfl) (hval 1 60 v1 rfl rfl) h1
  have bg0 := bounds_u64 wg0
  obtain ⟨g0, rfl⟩ := Int.eq_ofNat_of_zero_le bg0.1
  have bg1 := bounds_u64 wg1
  obtain ⟨g1, rfl⟩ := Int.eq_ofNat_of_zero_le bg1.1
  obtain ⟨lA, lLen, lCap, l, rfl, lRow, lL, lC, lM⟩ := acts_openX (hval 2 61 v2 rfl rfl) h2
  refine (spacePlays_walk x0 x1 g0 g1 lA lLen lCap l W (tab_of_laid hL) (by omega) (by omega) lRow lL lC).mono fun e W' ⟨he', hm⟩ => ?_
  subst he'
  exact ⟨_, rfl, post_law laidOut (by rw [Tryd.params9]; exact readables_spacePlays) (by rfl) Tryd.underlying4 rfl rfl hW' hm.below⟩

theorem spacePlays_reads (os : Os) {H : Type} (enc : TypeId × Value → H) : ∃ places, DataW.whole enc Tryd.prog ((laidWorld os).forCall (fun _ _ => 0) ⟨#[], #[.agg #[.int .i64 0, .int .i64 0], .agg #[.int .u64 0, .int .u64 0], .slice none 0 0], []⟩).memory Tryd.f9.params.toList Rows.spacePlaysSpec.vars false (#[.agg #[.int .i64 0, .int .i64 0], .agg #[.int .u64 0, .int .u64 0], .slice none 0 0] : Array Value).toList 8 = some ([.agg [.lit (.int .i64 0), .lit (.int .i64 0)], .agg [.lit (.int .u64 0), .lit (.int .u64 0)], .nil], [], places) :=
  ⟨[], by kernel_rfl⟩

set_option maxRecDepth 100000 in
theorem spacePlays_lifted (os : Os) (started : os.Started) (H : Type) (enc : TypeId × Value → H) (F : Stop.Interp) :
    ReturnsInHanded {} Tryd.checked os 9 .any ((OpenSpec.ofChange Rows.spacePlaysSpec).preRow enc Tryd.prog Tryd.f9 Rows.spacePlaysRow.domain false Rows.spacePlaysRow.laid) (((OpenSpec.ofChange Rows.spacePlaysSpec).at F).post enc Tryd.prog Tryd.f9 false true false false) := by
  obtain ⟨places, hx⟩ := spacePlays_reads os enc
  refine returnsInHanded_of_row (C := Tryd.checked) (s := OpenSpec.ofChange Rows.spacePlaysSpec) own started (by kernel_rfl) Tryd.func9
    (witness_row_at (enc := enc) (C := Tryd.checked) false (laidWorld os) #[.agg #[.int .i64 0, .int .i64 0], .agg #[.int .u64 0, .int .u64 0], .slice none 0 0] rfl (by kernel_rfl) (by kernel_rfl) (by kernel_rfl)
      (OpenSpec.preRow_of_cond 8 hx (by kernel_rfl) (fun k hk => by cases hk) (by kernel_rfl) (laid_met os _))) ?_
  intro W base args ds gs before hval hW _ _ _ hL _ _
  exact spacePlays_contract H enc W base args ds gs before hval hW hL

theorem spacePlays_said : Rows.SpacePlaysSaid :=
  OpenClaim.holds_of_cond 9 Tryd.f9 rfl rfl rfl rfl rfl rfl rfl ⟨rfl, rfl, rfl, rfl, rfl⟩ rfl rfl rfl rfl rfl (by kernel_rfl) Tryd.func9 (by kernel_rfl)
    (of_decide_eq_true (by kernel_rfl)) (by unfold Func.isWrapper; first | (rw [if_pos (by decide +kernel)]; kernel_rfl) | (rw [if_neg (by decide +kernel)]; exact ⟨rfl, rfl⟩))
    (fun os started H enc _ F => by rw [OpenClaim.pre_eq_preRow]; exact spacePlays_lifted os started H enc F)

theorem spacePlays_plain (f : FuncId) (fn : Func) (hf : Tryd.pinned.checked.prog.funcNamed "treenail/treenaillaw10.SpacePlays" = some f) (hfn : Tryd.pinned.checked.prog.funcs[f]? = some fn) :
    false = Tryd.pinned.checked.prog.looks [] ∧ ∀ (j : Nat) t, fn.params[j]? = some t → Tryd.pinned.checked.prog.wantsStandIn t = false := by
  obtain rfl : f = 9 := Option.some.inj ((show Tryd.prog.funcNamed "treenail/treenaillaw10.SpacePlays" = some 9 by kernel_rfl).symm.trans hf) |>.symm
  obtain rfl : fn = Tryd.f9 := (Option.some.inj (Tryd.func9.symm.trans hfn)).symm
  refine ⟨by kernel_rfl, fun j t ht => ?_⟩
  rw [Tryd.params9] at ht
  exact standIns_spacePlays j t ht

/-- The card. -/
theorem spacePlays_card : Rows.SpacePlaysCardSaid :=
  Claim7.holds_tied_plain_at .later [] _ _ _ _ spacePlays_said (fun _ h => by cases h) (by kernel_rfl) (fun _ h => by cases h) spacePlays_row_tie rfl ⟨rfl, rfl⟩ (by kernel_rfl) rfl spacePlays_plain (by kernel_rfl)
end Go.Proofs.YtahaecieklfhkaaDoor
