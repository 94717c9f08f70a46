/- MirrorRefuses, its parts. -/
import Derived.Test.YtnpfhfgegjocoaaGreatMC
import Derived.Test.YtnpfhfgegjocoaaGreatMF
import Derived.Deep.CutRange
import Derived.Test.YtnpfhfgegjocoaaGreatMH
import Derived.Test.YtnpfhfgegjocoaaGreatMG
/- dev: turn. -/
namespace Go.Proofs.YtnpfhfgegjocoaaGreat
open Go.RowKit

/-- A byte of a text is another one. -/
def turnB (s : ByteArray) (k : Nat) (y : UInt8) : ByteArray := bA (s.toList.set k (s.toList.getD k 0 ^^^ y))
theorem turnB_size (s : ByteArray) (k : Nat) (y : UInt8) : (turnB s k y).size = s.size := by
  unfold turnB
  rw [bA_size, List.length_set, Lib.toList_data, Array.length_toList]
  rfl
theorem turnB_list (s : ByteArray) (k : Nat) (y : UInt8) : (turnB s k y).toList = s.toList.set k (s.toList.getD k 0 ^^^ y) := bA_list _
theorem turn_conv (W : World) (n : Nat) (hn : n < 256) : (convert 22 9 (.slice (some ⟨W.heap.size, 0, none⟩) 1 1)).run Tryz.prog (W.alloc (.cells #[.int .u8 (n : Nat)] 5)).drew = .ok (.string ⟨#[UInt8.ofNat n]⟩) (W.alloc (.cells #[.int .u8 (n : Nat)] 5)).drew := by
  refine run_convert_bytes_back (P := Tryz.prog) _ 22 9 5 ⟨W.heap.size, 0, none⟩ 1 [UInt8.ofNat n] Tryz.underlying22 Tryz.underlying5 Tryz.underlying9 (fun j hj => ?_)
  have hj0 : j = 0 := by simpa using hj
  subst hj0
  rw [addr_add0]
  have e1 : (UInt8.ofNat n).toNat = n := by simp; omega
  simp only [List.getElem_cons_zero, e1]
  exact ((Blk.new W 5 [.int .u8 (n : Nat)]).drewN 1).cell (i := 0) rfl
theorem turn_eq (s : ByteArray) {k : Nat} (hk : k < s.size) (y : UInt8) : s.extract 0 k ++ ⟨#[s[k] ^^^ y]⟩ ++ s.extract (k + 1) s.size = turnB s k y := by
  apply ByteArray.ext
  apply Array.ext'
  have hl : s.data.toList.length = s.size := Array.length_toList
  have hk2 : k < s.data.toList.length := by omega
  have hg : s[k] = s.data.toList[k] := by rfl
  unfold turnB bA
  rw [Lib.toList_data, List.set_eq_take_append_cons_drop, if_pos hk2, List.getD_eq_getElem?_getD, List.getElem?_eq_getElem hk2, Option.getD_some, ← hg]
  simp only [ByteArray.data_append, ByteArray.data_extract, Array.toList_append, Array.toList_extract, List.extract_eq_take_drop, List.drop_zero, Nat.sub_zero, List.append_assoc, List.cons_append, List.nil_append]
  rw [List.take_of_length_le (l := List.drop (k + 1) s.data.toList) (by rw [List.length_drop]; omega)]
theorem dTurn_any {W : World} (s : ByteArray) {k : Nat} (hk : k < s.size) (hs : s.size ≤ 1000000) (y : UInt8) :
    Calls Tryz.prog 88 #[.string s, .int .i64 (k : Nat), .int .u8 (y.toNat : Nat)] W fun e w' => e = .returned (.string (turnB s k y)) ∧ Hid (Mods [] W w') := by
  have hw : IntKind.i64.wrap ((k : Int) + 1) = ((k + 1 : Nat) : Int) := by rw [IntKind.wrap_i64]; omega
  have ha := s[k].toNat_lt
  have hb := y.toNat_lt
  have hx := u8_xor_nat s[k].toNat y.toNat (by omega) (by omega)
  have hn2 : s[k].toNat ^^^ y.toNat < 256 := Nat.xor_lt_two_pow (n := 8) ha hb
  have HE := turn_eq s hk y
  have he : s[k] ^^^ y = UInt8.ofNat (s[k].toNat ^^^ y.toNat) := by rw [← UInt8.toNat_xor]; simp
  rw [he] at HE
  replace HE := Lib.hid HE
  generalize s[k].toNat ^^^ y.toNat = n at *
  have hc := turn_conv W n hn2
  clear ha hb he
  have hk1 : k + 1 ≤ s.size := hk
  go_enter Tryz.func88, Tryz.ntmps88
  go_wp2_with fail
  go_region
  all_goals go_wp2_with fail
  all_goals go_ret
  all_goals rw [← HE.out]
  all_goals exact ⟨rfl, Lib.hid (((Mods.refl _ _).alloc _).drewN _)⟩
end Go.Proofs.YtnpfhfgegjocoaaGreat
/- dev.Garble. -/
namespace Go.Proofs.YtnpfhfgegjocoaaGreat
open Go.RowKit

/-- A cell of a row of one's own is set. -/
theorem owns_set {w : World} {base n s g i : Nat} {e : TypeId} {v : Value} {xs : List Value} (h : w.ownsRow base e s v n xs) (hv : v.ownBlock = some g) (_hi : i < n * s) (u : Value) : (w.setCell ⟨g, i, none⟩ u).ownsRow base e s v n (xs.set i u) ∧ w.frozen? ⟨g, i, none⟩ = false := by
  obtain ⟨h1, h2⟩ := h
  rcases h2 with ⟨rfl, _⟩ | ⟨g1, cap, cur, rfl, hb, hk, hn, hc, hs, ht⟩
  · cases hv
  · simp only [Value.ownBlock, Option.some.injEq] at hv
    subst hv
    have hB : Blk w g1 e cur.toList := by unfold Blk; simpa using hk
    refine ⟨⟨by rw [List.length_set]; exact h1, .inr ⟨g1, cap, (cur.toList.set i u).toArray, rfl, hb, hB.set i u, hn, hc, ?_, ?_⟩⟩, hB.free i⟩
    · simp [hs]
    · rw [← ht, List.take_set]
theorem wRow_data (y : ByteArray) : ∀ (c : List (Nat × ByteArray)) {j : Nat} {x : Nat × ByteArray}, c[j]? = some x → (wRow c).set (j * 2 + 1) (.string y) = wRow (c.set j (x.1, y))
  | [], j, x, h => by simp at h
  | a :: c, 0, x, h => by
    simp at h; subst h; rfl
  | a :: c, j + 1, x, h => by
    have ih := wRow_data y c (j := j) (x := x) (by simpa using h)
    show (wcells a ++ wRow c).set ((j + 1) * 2 + 1) _ = wcells a ++ wRow (c.set j (x.1, y))
    rw [← ih, List.set_append_right _ _ (by simp [wcells]; omega)]
    congr 2
    simp [wcells]; omega
theorem hcellsF {w : World} {g nc cc j : Nat} {c : List (Nat × ByteArray)} {x : Nat × ByteArray} (h : w.ownsRow 0 159 2 (.slice (some ⟨g, 0, none⟩) nc cc) nc (wRow c)) (hx : c[j]? = some x) : w.cell? ⟨g, j * 2 + 1, none⟩ = some (.string x.2) := by
  obtain ⟨A2, cap2, hA2, hcells⟩ := owns_shapeD h
  injection hA2 with hA2 _ _
  subst hA2
  obtain ⟨g', hg, c1⟩ := hcells _ _ (wRow_at hx).2
  injection hg with hg; injection hg with hg
  subst hg
  exact c1
def garbC (k a : Nat) (y : UInt8) (x : Nat × ByteArray) : Nat × ByteArray := if x.1 = k then (x.1, turnB x.2 a y) else x
def Dev.garble (D : Dev) (k a : Nat) (y : UInt8) : Dev := { D with media := D.media.set k (turnB (D.media.getD k ⟨#[]⟩) a y), cache := D.cache.map (garbC k a y) }
def garbN (k a : Nat) (y : UInt8) (c : List (Nat × ByteArray)) (j : Nat) : List (Nat × ByteArray) := (c.take j).map (garbC k a y) ++ c.drop j
theorem garbN_len (k a : Nat) (y : UInt8) (c : List (Nat × ByteArray)) (j : Nat) : (garbN k a y c j).length = c.length := by
  unfold garbN
  simp
  omega
theorem garbN_at {k a : Nat} {y : UInt8} {c : List (Nat × ByteArray)} {j : Nat} {x : Nat × ByteArray} (h : c[j]? = some x) : (garbN k a y c j)[j]? = some x ∧ garbN k a y c (j + 1) = (garbN k a y c j).set j (garbC k a y x) := by
  have hj := (List.getElem?_eq_some_iff.1 h).1
  have hx := (List.getElem?_eq_some_iff.1 h).2
  have hl : ((c.take j).map (garbC k a y)).length = j := by simp; omega
  unfold garbN
  constructor
  · rw [List.getElem?_append_right (by omega), hl, Nat.sub_self, List.getElem?_drop, Nat.add_zero, h]
  · rw [List.set_append_right _ _ (by omega), hl, Nat.sub_self, List.take_add_one, h, List.drop_eq_getElem_cons hj, hx]
    simp
theorem garbN_all (k a : Nat) (y : UInt8) (c : List (Nat × ByteArray)) : garbN k a y c c.length = c.map (garbC k a y) := by unfold garbN; simp
theorem garbN_zero (k a : Nat) (y : UInt8) (c : List (Nat × ByteArray)) : garbN k a y c 0 = c := by unfold garbN; simp
set_option maxRecDepth 100000 in
set_option maxHeartbeats 400000 in
theorem dGarble_any {W : World} {b : Nat} {fp : List Nat} {D : Dev} (h : IsDev W b fp D) (hc : D.cache.length < 1000000) {k : Nat} (hk : k < D.sectors) (a : Nat) (y : UInt8) :
    Calls Tryz.prog 33 #[.pointer (some ⟨b, 0, none⟩), .int .i64 (k : Nat), .int .i64 (a : Nat), .int .u8 (y.toNat : Nat)] W fun e w' => e = .returned (.tuple #[]) ∧ Hid (IsDev w' b fp (D.garble k (a % D.size) y)) ∧ Hid (Mods fp W w') := by
  have hisS : D.isS (k : Int) = true := by unfold Dev.isS; simp; omega
  have cIs := Lib.hid (dIs_any h (k : Int))
  rw [hisS] at cIs
  obtain ⟨mb, bb, cv, c0, c1, c2, hin, hfp, hnd⟩ := h
  subst hfp
  obtain ⟨Ac, cc, hcv, _⟩ := owns_shapeD hin.cache
  obtain ⟨nc, hnc⟩ : ∃ nc, D.cache.length = nc := ⟨_, rfl⟩
  rw [hnc] at hcv
  subst hcv
  have hn := hnd
  simp only [List.nodup_cons, List.mem_cons, Option.mem_toList, not_or] at hn
  obtain ⟨⟨n1, n2, n3⟩, ⟨n4, n5⟩, n6, _⟩ := hn
  have hsz0 := hin.ok.size0
  obtain ⟨m, hm⟩ : ∃ m : Nat, a % D.size = m := ⟨_, rfl⟩
  have hml : m < D.size := by rw [← hm]; exact Nat.mod_lt _ (by omega)
  have hmI : (a : Int) % (D.size : Int) = (m : Int) := by rw [← hm]; simp
  have hkm : k < D.media.length := by rw [hin.ok.media]; exact hk
  have d1 := hin.dev.cell (i := 1) rfl
  have d2 := hin.dev.cell (i := 2) rfl
  obtain ⟨o, ho⟩ : ∃ o, D.media[k]? = some o := ⟨_, List.getElem?_eq_getElem hkm⟩
  have hos : o.size = D.size := hin.ok.each o (List.mem_of_getElem? ho)
  have hsz1 := hin.ok.size1
  have t0 := hin.media.cell (i := k) (v := .string o) (by rw [List.getElem?_map, ho]; rfl)
  have t1 := hin.media.free k
  have hgd : D.media.getD k ⟨#[]⟩ = o := by rw [List.getD_eq_getElem?_getD, ho]; rfl
  have cT := Lib.hid (fun (w : World) => dTurn_any (W := w) o (k := m) (by omega) (by omega) y)
  unfold Dev.garble
  rw [hgd]
  obtain ⟨o', ho'⟩ : ∃ o', turnB o m y = o' := ⟨_, rfl⟩
  rw [ho'] at cT
  have HIN := Lib.hid hin
  rw [hm, ho']
  have hag : ¬ (a : Int) < 0 := by omega
  have HND := Lib.hid hnd
  have HNN := Lib.hid (And.intro n1 (And.intro n2 (And.intro n3 (And.intro n4 (And.intro n5 n6)))))
  have HNC := Lib.hid hnc
  have HO := Lib.hid (And.intro ho (And.intro hos ho'))
  have HKC : Hid ((D.media.map Value.string)[k]? = some (.string o)) := Lib.hid (by rw [List.getElem?_map, ho]; rfl)
  have hbm : ¬ mb = b := fun e => n1 e.symm
  have hbm2 : ¬ b = mb := n1
  clear hin hnd n1 n2 n3 n4 n5 n6 hisS hm hgd ho hos ho' hkm
  go_enter Tryz.func33, Tryz.ntmps33
  go_upto_region 2 with (go_at_call 71; refine cIs.out.mono ?_; rintro e w' ⟨rfl, rfl⟩)
  simp only [hmI]
  go_cut [2] from 25 to 40 (fun v2 wx => v2 = .int .i64 (m : Nat) ∧ Hid (Blk wx mb 9 ((D.media.set k o').map Value.string) ∧ Mods [mb] W wx))
  case first =>
    go_region_with ((go_at_call 88; refine (cT.out _).mono ?_; rintro e w2 ⟨rfl, HM2⟩; have HM3 := Lib.hid (((Mods.refl [] W).drew).trans HM2.out (by simp)); have e1 := (HIN.out.dev.keep HM3.out (by simp)).cell (i := 2) rfl; have hm3 := HIN.out.media.keep HM3.out (by simp); have e2 := hm3.cell (i := k) (v := .string o) HKC.out; have e3 := hm3.free k; clear hm3))
    all_goals go_wp2_with fail
    all_goals go_meet
    all_goals
      refine ⟨rfl, Lib.hid ?_⟩
      rw [List.map_set]
      refine ⟨((HIN.out.media.keep HM3.out (by simp)).set k (.string o')), ?_⟩
      first | exact (HM3.out.mono (by simp)).setCell (.inl (by simp)) _ | exact ((HM3.out.mono (by simp)).setCell (.inl (by simp)) _).drew | exact ((HM3.out.mono (by simp)).drew).setCell (.inl (by simp)) _
  case rest =>
    obtain ⟨rfl, HX⟩ := hcut
    obtain ⟨wo, hwo⟩ : ∃ wo : World, wo = wc := ⟨_, rfl⟩
    subst hwo
    have HI1 : Hid (Blk wo b 156 (devCells D mb bb (.slice Ac nc cc) c0 c1 c2) ∧ Blk wo bb 4 (D.bad.map Value.bool) ∧ wo.ownsRow 0 159 2 (.slice Ac nc cc) D.cache.length (wRow D.cache)) := Lib.hid ⟨HIN.out.dev.keep HX.out.2 (by simp; exact HNN.out.1), HIN.out.bad.keep HX.out.2 (by simp; exact fun e => HNN.out.2.2.2.1 e.symm), owns_keepF HIN.out.cache HX.out.2 (fun g hg hx => HNN.out.2.2.2.2.1 (by rw [List.mem_singleton.1 hx] at hg; exact hg))⟩
    have d3 := HI1.out.1.cell (i := 4) rfl
    clear t0 t1 d1 d2 cT cIs
    go_wp2_with fail
    go_loopw [46] (fun iv wr => ∃ j : Nat, j ≤ nc ∧ iv = .int .i64 (j : Nat) ∧ wr.ownsRow 0 159 2 (.slice Ac nc cc) nc (wRow (garbN k m y D.cache j)) ∧ Mods (Value.slice Ac nc cc).ownBlock.toList wo wr) (fun iv _ => nc - (intOf iv).toNat)
    case atStart => exact ⟨0, Nat.zero_le _, rfl, by rw [garbN_zero]; exact HNC.out ▸ HI1.out.2.2, Mods.refl _ _⟩
    case round =>
      obtain ⟨j, hj, rfl, hO, hM⟩ := hrel
      have HOM := Lib.hid (And.intro hO hM)
      by_cases hjl : j < nc
      · obtain ⟨x, hx⟩ : ∃ x, D.cache[j]? = some x := ⟨_, List.getElem?_eq_getElem (by rw [HNC.out]; exact hjl)⟩
        obtain ⟨hgx, hgn⟩ := garbN_at (k := k) (a := m) (y := y) hx
        obtain ⟨A2, cap2, hA2, hcells⟩ := owns_shapeD hO
        injection hA2 with hA2 _ hcap2
        subst hA2 hcap2
        obtain ⟨g, hg, c0'⟩ := hcells _ _ (wRow_at hgx).1
        obtain ⟨_, hg', c1'⟩ := hcells _ _ (wRow_at hgx).2
        subst hg
        injection hg' with hg'; injection hg' with hg'
        subst hg'
        obtain ⟨x1, x2⟩ := x
        have hxo := HIN.out.ok.cache _ (List.mem_of_getElem? hx)
        simp only at c0' c1' hxo
        obtain ⟨wa, hwa⟩ : ∃ wa, wr.alloc (.cells #[.int .i64 (x1 : Nat), .string x2] 159) = wa := ⟨_, rfl⟩
        have hma : Mods [] wr wa := by rw [← hwa]; exact (Mods.refl _ _).alloc _
        have hNa : Blk wa wr.heap.size 159 [.int .i64 (x1 : Nat), .string x2] := by rw [← hwa]; exact Blk.new wr 159 _
        have a0 := hNa.cell (i := 0) rfl
        have a1 := hNa.cell (i := 1) rfl
        have hgb : ¬ b = g := fun e => HNN.out.2.2.1 (by rw [e]; rfl)
        have hgw : ¬ wr.heap.size = g := by have := (owns_ltF hO (g := g) rfl).2; omega
        have hgb2 : ¬ g = b := fun e => hgb e.symm
        have hgw2 : ¬ g = wr.heap.size := fun e => hgw e.symm
        have hbd : Blk wa b 156 (devCells D mb bb (.slice (some ⟨g, 0, none⟩) nc cc) c0 c1 c2) := (HI1.out.1.keep hM (by simp [Value.ownBlock]; exact hgb)).keep hma (by simp)
        have d4 := hbd.cell (i := 4) rfl
        have hsn : wr.ownsRow 0 159 2 (.slice (some ⟨g, 0, none⟩) nc cc) nc (wRow (garbN k m y D.cache j)) := hO
        have HXX := Lib.hid (And.intro hgx hgn)
        have HMA := Lib.hid hma
        have HNA := Lib.hid hNa
        have HBD := Lib.hid hbd
        have HWA := Lib.hid hwa
        clear hO hM hx hgx hgn hcells hma hNa hbd hsn hwa
        by_cases hxk : x1 = k
        · subst hxk
          have cT := Lib.hid (fun (w : World) => dTurn_any (W := w) x2 (k := m) (by omega) (by omega) y)
          have hgc : garbC x1 m y (x1, x2) = (x1, turnB x2 m y) := by unfold garbC; rw [if_pos rfl]
          obtain ⟨o2, ho2⟩ : ∃ o2, turnB x2 m y = o2 := ⟨_, rfl⟩
          rw [ho2] at cT hgc
          have HGC := Lib.hid hgc
          have HSET : Hid (∀ w', Mods [] wa w' → (w'.setCell ⟨g, j * 2 + 1, none⟩ (.string o2)).ownsRow 0 159 2 (.slice (some ⟨g, 0, none⟩) nc cc) nc (wRow (garbN x1 m y D.cache (j + 1))) ∧ w'.frozen? ⟨g, j * 2 + 1, none⟩ = false ∧ w'.cell? ⟨g, j * 2 + 1, none⟩ = some (.string x2)) := Lib.hid (fun w' hm => by
            have h1 := owns_keepF (owns_keepF HOM.out.1 HMA.out (by simp)) hm (by simp)
            obtain ⟨h2, h3⟩ := owns_set h1 (g := g) (i := j * 2 + 1) rfl (by omega) (.string o2)
            rw [wRow_data o2 _ HXX.out.1] at h2
            refine ⟨?_, h3, ?_⟩
            · rw [HXX.out.2, HGC.out]; exact h2
            · exact (hcellsF h1 HXX.out.1))
          clear hgc ho2
          obtain ⟨_, z1, z2⟩ := HSET.out wa (Mods.refl _ _)
          go_wp2_with fail
          rw [HWA.out]
          clear c0' c1'
          go_region_held3 (fun w' => w'.cell? ⟨b, 4, none⟩ = some (.slice (some ⟨g, 0, none⟩) nc cc) ∧ w'.cell? ⟨wr.heap.size, 1, none⟩ = some (.string x2)) (first | go_keep | exact HE1.out | fail) ((go_at_call 88; refine (cT.out _).mono ?_; rintro e w2 ⟨rfl, HM2⟩; have HM3 := Lib.hid (((Mods.refl [] wa).drew).trans HM2.out (by simp)); have HE1 := Lib.hid (And.intro ((HBD.out.keep HM3.out (by simp)).cell (i := 4) rfl) ((HNA.out.keep HM3.out (by simp)).cell (i := 1) rfl)); obtain ⟨_, y1, y2⟩ := HSET.out _ HM3.out))
          go_wp2_with fail
          go_roundw
          case rel => exact ⟨j + 1, by omega, by go_num, (HSET.out _ HM3.out).1, ((HOM.out.2.trans HMA.out (by simp)).trans HM3.out (by simp)).setCell (.inl (by simp [Value.ownBlock])) _⟩
          case measure => simp [intOf]; omega
        · have hgc : garbC k m y (x1, x2) = (x1, x2) := by unfold garbC; rw [if_neg hxk]
          have hxk' : ¬ (x1 : Int) = (k : Int) := by omega
          have hsame : garbN k m y D.cache (j + 1) = garbN k m y D.cache j := by
            rw [HXX.out.2, hgc]
            obtain ⟨hl, he⟩ := List.getElem?_eq_some_iff.1 HXX.out.1
            rw [← he, List.set_getElem_self]
          have HSM := Lib.hid hsame
          clear hgc hsame
          go_wp2_with fail
          rw [HWA.out]
          clear c0' c1'
          go_wp2_with fail
          go_roundw
          case rel => exact ⟨j + 1, by omega, by go_num, by rw [HSM.out]; exact owns_keepF HOM.out.1 HMA.out (by simp), HOM.out.2.trans HMA.out (by simp)⟩
          case measure => simp [intOf]; omega
      · obtain rfl : j = nc := by omega
        clear hO hM
        have hall : garbN k m y D.cache j = D.cache.map (garbC k m y) := by rw [← HNC.out]; exact garbN_all k m y D.cache
        go_wp2_with fail
        go_end0
        obtain ⟨q1, q2, q3, q4, q5, q6⟩ := HNN.out
        have hO := HOM.out.1
        rw [hall] at hO
        have hM := HOM.out.2
        refine ⟨rfl, Lib.hid ⟨mb, bb, .slice Ac j cc, c0, c1, c2, ⟨?_, HIN.out.fuse, HIN.out.lose, HIN.out.stray, HI1.out.1.keep hM (fun hx => q3 (Option.mem_toList.1 hx)), HX.out.1.keep hM (fun hx => q5 (Option.mem_toList.1 hx)), HI1.out.2.1.keep hM (fun hx => q6 (Option.mem_toList.1 hx)), ?_⟩, rfl, HND.out⟩, Lib.hid ?_⟩
        · have ho := HIN.out.ok
          obtain ⟨h1, h2, h3⟩ := HO.out
          refine ⟨by rw [List.length_set]; exact ho.media, ho.bad, ho.sec, ho.size0, ho.size1, fun s hs => ?_, fun x hx => ?_⟩
          · rcases List.mem_or_eq_of_mem_set hs with h | h
            · exact ho.each s h
            · rw [h, ← h3, turnB_size]; exact h2
          · obtain ⟨c, hc1, hc2⟩ := List.mem_map.1 hx
            have hc3 := ho.cache c hc1
            rw [← hc2]
            unfold garbC
            split
            · exact ⟨hc3.1, by rw [turnB_size]; exact hc3.2⟩
            · exact hc3
        · show wr.ownsRow 0 159 2 (.slice Ac j cc) (D.cache.map (garbC k m y)).length (wRow (D.cache.map (garbC k m y)))
          rw [List.length_map, HNC.out]; exact hO
        · exact (HX.out.2.mono (by simp)).trans hM (fun z hz => .inl (by simp only [List.mem_cons]; exact .inr (.inr (.inr hz))))
end Go.Proofs.YtnpfhfgegjocoaaGreat
/- A mirror that was made since W, its blocks none of F; what else may have turned. -/
namespace Go.Proofs.YtnpfhfgegjocoaaGreat
open Go.RowKit

/-- None of the blocks F turned. -/
def Minds (F : List Nat) (w w' : World) : Prop := ∃ L, Mods L w w' ∧ ∀ k ∈ L, k ∉ F
section
variable {F G : List Nat} {w w' w1 w2 : World}
theorem Minds.refl (F : List Nat) (w : World) : Minds F w w := ⟨[], Mods.refl _ _, by simp⟩
theorem Minds.of (h : Mods [] w w') : Minds F w w' := ⟨[], h, by simp⟩
theorem Minds.trans (h : Minds F w w1) (g : Minds F w1 w2) : Minds F w w2 := by
  obtain ⟨L, h1, h2⟩ := h
  obtain ⟨K, g1, g2⟩ := g
  refine ⟨L ++ K, (h1.mono (fun k hk => List.mem_append_left _ hk)).trans g1 (fun k hk => .inl (List.mem_append_right _ hk)), fun k hk => ?_⟩
  rcases List.mem_append.1 hk with hk | hk
  · exact h2 k hk
  · exact g2 k hk
theorem Minds.mono (h : Minds F w w1) (hs : ∀ k ∈ G, k ∈ F) : Minds G w w1 := by
  obtain ⟨L, h1, h2⟩ := h
  exact ⟨L, h1, fun k hk hx => h2 k hk (hs k hx)⟩
theorem Minds.tr (h : Minds F w w1) (g : Mods [] w1 w2) : Minds F w w2 := h.trans (Minds.of g)
theorem Minds.blk (h : Minds F w w') {g : Nat} {t : TypeId} {l : List Value} (hb : Blk w g t l) (hg : g ∈ F) : Blk w' g t l := by
  obtain ⟨L, h1, h2⟩ := h
  exact hb.keep h1 (fun hx => h2 g hx hg)
theorem Minds.map (h : Minds F w w') {κ : Type} {kv : κ → Value} {g n : Nat} {f : κ → Option Value} (hb : MapK kv w g f n) (hg : g ∈ F) : MapK kv w' g f n := by
  obtain ⟨L, h1, h2⟩ := h
  exact hb.keep h1 (fun hx => h2 g hx hg)
theorem Minds.size (h : Minds F w w') : w.heap.size ≤ w'.heap.size := h.elim fun _ h => h.1.size
/-- A mirror that was made since W. -/
structure OwnM (W : World) (F : List Nat) (w : World) (b p : Nat) (x : Nat → Nat) (M : Mi) : Prop where
  ex : ∃ tb mb gp fx, IsM w b p tb mb gp x fx M ∧ ∀ g, g = b ∨ g = tb ∨ g = mb ∨ g ∈ gp ∨ g ∈ fx 0 ∨ g ∈ fx 1 → W.heap.size ≤ g ∧ g ∉ F
  mods : Mods [] W w
  lt : ∀ g ∈ F, g < w.heap.size
variable {W : World} {b p : Nat} {x : Nat → Nat} {M M' : Mi} {B z c : Nat}
theorem OwnM.turn (h : OwnM W F w b p x M) {tb mb : Nat} {gp gp' : List Nat} {fx fx' : Nat → List Nat} (hI : IsM w b p tb mb gp x fx M) (hf : ∀ g, g = b ∨ g = tb ∨ g = mb ∨ g ∈ gp ∨ g ∈ fx 0 ∨ g ∈ fx 1 → W.heap.size ≤ g ∧ g ∉ F) (g : MTo w w' b p tb mb gp gp' x fx fx' M') :
    Hid (OwnM W F w' b p x M') ∧ Hid (Minds F w w') := by
  have hs := h.mods.size
  have hL : ∀ k ∈ b :: mb :: p :: (fx 0 ++ fx 1), W.heap.size ≤ k ∧ k ∉ F := fun k hk => by
    rcases List.mem_cons.1 hk with rfl | hk
    · exact hf _ (.inl rfl)
    · rcases List.mem_cons.1 hk with rfl | hk
      · exact hf _ (.inr (.inr (.inl rfl)))
      · rcases List.mem_cons.1 hk with rfl | hk
        · exact hf _ (.inr (.inr (.inr (.inl hI.at_p))))
        · rcases List.mem_append.1 hk with hk | hk
          · exact hf _ (.inr (.inr (.inr (.inr (.inl hk)))))
          · exact hf _ (.inr (.inr (.inr (.inr (.inr hk)))))
  have hnew : ∀ k, w.heap.size ≤ k → W.heap.size ≤ k ∧ k ∉ F := fun k hk => ⟨by omega, fun hx => by have := h.lt k hx; omega⟩
  refine ⟨Lib.hid ⟨⟨tb, mb, gp', fx', g.is, fun k hk => ?_⟩, h.mods.trans g.mods (fun k hk => .inr (hL k hk).1), fun k hk => Nat.lt_of_lt_of_le (h.lt k hk) g.mods.size⟩, Lib.hid ⟨_, g.mods, fun k hk => (hL k hk).2⟩⟩
  rcases hk with rfl | rfl | rfl | hk | hk | hk
  · exact hf _ (.inl rfl)
  · exact hf _ (.inr (.inl rfl))
  · exact hf _ (.inr (.inr (.inl rfl)))
  · rcases g.newG k hk with h1 | h1
    · exact hf _ (.inr (.inr (.inr (.inl h1))))
    · exact hnew k h1
  · rcases g.newF 0 (by decide) k hk with h1 | h1
    · exact hf _ (.inr (.inr (.inr (.inr (.inl h1)))))
    · exact hnew k h1
  · rcases g.newF 1 (by decide) k hk with h1 | h1
    · exact hf _ (.inr (.inr (.inr (.inr (.inr h1)))))
    · exact hnew k h1
theorem OwnM.still (h : OwnM W F w b p x M) (hm : Mods [] w w1) : OwnM W F w1 b p x M := by
  obtain ⟨tb, mb, gp, fx, hI, hf⟩ := h.ex
  exact (h.turn hI hf (MTo.still hI hm)).1.out
theorem OwnM.foot_lt (h : OwnM W F w b p x M) : ∃ tb mb gp fx, IsM w b p tb mb gp x fx M ∧ ∀ g, g = b ∨ g = tb ∨ g = mb ∨ g ∈ gp ∨ g ∈ fx 0 ∨ g ∈ fx 1 → W.heap.size ≤ g ∧ g ∉ F ∧ g < w.heap.size := by
  obtain ⟨tb, mb, gp, fx, hI, hf⟩ := h.ex
  obtain ⟨l1, l2, l3⟩ := hI.lt
  refine ⟨tb, mb, gp, fx, hI, fun g hg => ⟨(hf g hg).1, (hf g hg).2, ?_⟩⟩
  rcases hg with rfl | rfl | rfl | hg | hg | hg
  · exact l1
  · exact l2
  · exact l3
  · exact hI.pair.pb.lt _ hg
  · exact (hI.pair.dev 0 (by decide)).lt _ hg
  · exact (hI.pair.dev 1 (by decide)).lt _ hg
/-- New blocks are minded, too. -/
theorem OwnM.protect (h : OwnM W F w b p x M) (hm : Mods [] w w1) (hG : ∀ g ∈ G, g ∈ F ∨ w.heap.size ≤ g ∧ g < w1.heap.size) : OwnM W G w1 b p x M := by
  obtain ⟨tb, mb, gp, fx, hI, hf⟩ := h.foot_lt
  refine ⟨⟨tb, mb, gp, fx, hI.still hm, fun g hg => ⟨(hf g hg).1, fun hx => ?_⟩⟩, h.mods.trans hm (by simp), fun g hg => ?_⟩
  · rcases hG g hx with h1 | h1
    · exact (hf g hg).2.1 h1
    · have := (hf g hg).2.2; omega
  · rcases hG g hg with h1 | h1
    · exact Nat.lt_of_lt_of_le (h.lt g h1) hm.size
    · exact h1.2
theorem OwnM.older (h : OwnM W F w b p x M) (hG : ∀ g ∈ G, g ∈ F ∨ g < W.heap.size) : OwnM W G w b p x M := by
  obtain ⟨tb, mb, gp, fx, hI, hf⟩ := h.ex
  refine ⟨⟨tb, mb, gp, fx, hI, fun g hg => ⟨(hf g hg).1, fun hx => ?_⟩⟩, h.mods, fun g hg => ?_⟩
  · rcases hG g hx with h1 | h1
    · exact (hf g hg).2 h1
    · have := (hf g hg).1; omega
  · rcases hG g hg with h1 | h1
    · exact h.lt g h1
    · have := h.mods.size; omega
theorem OwnM.fewer (h : OwnM W F w b p x M) (hG : ∀ g ∈ G, g ∈ F) : OwnM W G w b p x M := h.protect (Mods.refl _ _) (fun g hg => .inl (hG g hg))
/-- The law's own blocks turned. -/
theorem OwnM.aside (h : OwnM W F w b p x M) {L : List Nat} (hm : Mods L w w1) (hL : ∀ k ∈ L, k ∈ F ∧ W.heap.size ≤ k) : OwnM W F w1 b p x M := by
  obtain ⟨tb, mb, gp, fx, hI, hf⟩ := h.ex
  have hno : ∀ g, g = b ∨ g = tb ∨ g = mb ∨ g ∈ gp ∨ g ∈ fx 0 ∨ g ∈ fx 1 → g ∉ L := fun g hg hx => (hf g hg).2 (hL g hx).1
  refine ⟨⟨tb, mb, gp, fx, hI.keep hm ⟨hno _ (.inl rfl), hno _ (.inr (.inl rfl)), hno _ (.inr (.inr (.inl rfl)))⟩ (fun g hg => hno _ (.inr (.inr (.inr (.inl hg))))) (fun k hk g hg => hno _ ?_), hf⟩, h.mods.trans hm (fun k hk => .inr (hL k hk).2), fun g hg => Nat.lt_of_lt_of_le (h.lt g hg) hm.size⟩
  rcases two_cases hk with rfl | rfl
  · exact .inr (.inr (.inr (.inr (.inl hg))))
  · exact .inr (.inr (.inr (.inr (.inr hg))))
theorem OwnM.n_le (h : OwnM W F w b p x M) : M.P.n ≤ 32 := by
  obtain ⟨tb, mb, gp, fx, hI, _⟩ := h.ex
  exact hI.n_le
/-! the methods -/
theorem oWrite (h : OwnM W F w b p x M) (hF : Fine B z c M.P) (hc : c ≤ 700000) {i : Nat} (hi : i < B) {img : ByteArray} (hx : img.size = z) :
    Calls Tryz.prog 29 #[.pointer (some ⟨b, 0, none⟩), .int .i64 (i : Nat), .string img] w fun e w' => e = .returned (.int .i64 ((M.write i img).1 : Nat)) ∧ Hid (OwnM W F w' b p x (M.write i img).2) ∧ Hid (Minds F w w') := by
  obtain ⟨tb, mb, gp, fx, hI, hf⟩ := h.ex
  exact (mWrite_m hI hF hc hi hx).mono fun e w' ⟨gp', fx', h1, h2⟩ => ⟨h1, h.turn hI hf h2.out⟩
theorem oWriteNo (h : OwnM W F w b p x M) (hF : Fine B z c M.P) (i : Int) (img : ByteArray) (hz : sizedM B z i img.size ≠ 0) :
    Calls Tryz.prog 29 #[.pointer (some ⟨b, 0, none⟩), .int .i64 i, .string img] w fun e w' => e = .returned (.int .i64 (sizedM B z i img.size : Nat)) ∧ Hid (OwnM W F w' b p x M) ∧ Hid (Minds F w w') := by
  obtain ⟨tb, mb, gp, fx, hI, hf⟩ := h.ex
  exact (mWrite_no hI hF i img hz).mono fun e w' ⟨h1, h2⟩ => ⟨h1, Lib.hid (h.still h2.out), Lib.hid (Minds.of h2.out)⟩
theorem oFlush (h : OwnM W F w b p x M) (hF : Fine B z c M.P) (hc : c ≤ 800000) :
    Calls Tryz.prog 30 #[.pointer (some ⟨b, 0, none⟩)] w fun e w' => e = .returned (.int .i64 ((M.flush).1 : Nat)) ∧ Hid (OwnM W F w' b p x (M.flush).2) ∧ Hid (Minds F w w') := by
  obtain ⟨tb, mb, gp, fx, hI, hf⟩ := h.ex
  exact (mFlush_m hI hF hc).mono fun e w' ⟨fx', h1, h2⟩ => ⟨h1, h.turn hI hf h2.out⟩
theorem oHealNo (h : OwnM W F w b p x M) (hF : Fine B z c M.P) (i : Int) (img : ByteArray) (hz : sizedM B z i img.size ≠ 0) :
    Calls Tryz.prog 45 #[.pointer (some ⟨b, 0, none⟩), .int .i64 i, .string img] w fun e w' => e = .returned (.tuple #[.int .i64 0, .int .i64 (sizedM B z i img.size : Nat)]) ∧ Hid (OwnM W F w' b p x M) ∧ Hid (Minds F w w') := by
  obtain ⟨tb, mb, gp, fx, hI, hf⟩ := h.ex
  exact (mHeal_no hI hF i img hz).mono fun e w' ⟨h1, h2⟩ => ⟨h1, Lib.hid (h.still h2.out), Lib.hid (Minds.of h2.out)⟩
theorem oHeal (h : OwnM W F w b p x M) (hF : Fine B z c M.P) (hc : c ≤ 600000) (hr : M.reps < 900000000) {i : Nat} (hi : i < B) {img : ByteArray} (hx : img.size = z) :
    Calls Tryz.prog 45 #[.pointer (some ⟨b, 0, none⟩), .int .i64 (i : Nat), .string img] w fun e w' => e = .returned (.tuple #[.int .i64 ((M.heal i img).1 : Nat), .int .i64 0]) ∧ Hid (OwnM W F w' b p x (M.heal i img).2) ∧ Hid (Minds F w w') := by
  obtain ⟨tb, mb, gp, fx, hI, hf⟩ := h.ex
  exact (mHeal_m hI hF hc hr hi hx).mono fun e w' ⟨gp', fx', h1, h2⟩ => ⟨h1, h.turn hI hf h2.out⟩
theorem oReadNo (h : OwnM W F w b p x M) (hF : Fine B z c M.P) (q : PtrE) (hq : ¬ (0 ≤ q.addr ∧ q.addr < (B : Int))) :
    Calls Tryz.prog 34 #[.pointer (some ⟨b, 0, none⟩), ptrV q] w fun e w' => e = .returned (.tuple #[.int .u8 0, .string ⟨#[]⟩, .int .i64 3]) ∧ Hid (OwnM W F w' b p x M) ∧ Hid (Minds F w w') := by
  obtain ⟨tb, mb, gp, fx, hI, hf⟩ := h.ex
  exact (mRead_no hI hF q hq).mono fun e w' ⟨h1, h2⟩ => ⟨h1, Lib.hid (h.still h2.out), Lib.hid (Minds.of h2.out)⟩
theorem oRead (h : OwnM W F w b p x M) (hF : Fine B z c M.P) (hc : c ≤ 600000) (hr : M.reps < 900000000) (q : PtrE) {i : Nat} (hi : i < B) (hq : q.addr = (i : Int)) :
    Calls Tryz.prog 34 #[.pointer (some ⟨b, 0, none⟩), ptrV q] w fun e w' => e = .returned (.tuple #[.int .u8 ((M.readV q i).1 : Nat), .string (M.readV q i).2.1, .int .i64 ((M.readV q i).2.2 : Nat)]) ∧ Hid (OwnM W F w' b p x (M.readM q i)) ∧ Hid (Minds F w w') := by
  obtain ⟨tb, mb, gp, fx, hI, hf⟩ := h.ex
  exact (mRead_m hI hF hc hr q hi hq).mono fun e w' ⟨gp', fx', h1, h2⟩ => ⟨h1, h.turn hI hf h2.out⟩
theorem oChkNo (h : OwnM W F w b p x M) (hF : Fine B z c M.P) (q : PtrE) (hq : ¬ (0 ≤ q.addr ∧ q.addr < (B : Int))) :
    Calls Tryz.prog 39 #[.pointer (some ⟨b, 0, none⟩), ptrV q] w fun e w' => e = .returned (.tuple #[.int .i64 0, .int .i64 3]) ∧ Hid (OwnM W F w' b p x M) ∧ Hid (Minds F w w') := by
  obtain ⟨tb, mb, gp, fx, hI, hf⟩ := h.ex
  exact (mChk_no hI hF q hq).mono fun e w' ⟨h1, h2⟩ => ⟨h1, Lib.hid (h.still h2.out), Lib.hid (Minds.of h2.out)⟩
theorem oChk (h : OwnM W F w b p x M) (hF : Fine B z c M.P) (hc : c ≤ 600000) (hr : M.reps < 900000000) (q : PtrE) {i : Nat} (hi : i < B) (hq : q.addr = (i : Int)) :
    Calls Tryz.prog 39 #[.pointer (some ⟨b, 0, none⟩), ptrV q] w fun e w' => e = .returned (.tuple #[.int .i64 ((M.check q i).1.1 : Nat), .int .i64 ((M.check q i).1.2 : Nat)]) ∧ Hid (OwnM W F w' b p x (M.check q i).2) ∧ Hid (Minds F w w') := by
  obtain ⟨tb, mb, gp, fx, hI, hf⟩ := h.ex
  exact (mChk_m hI hF hc hr q hi hq).mono fun e w' ⟨gp', fx', h1, h2⟩ => ⟨h1, h.turn hI hf h2.out⟩
theorem oImagesNo (h : OwnM W F w b p x M) (hF : Fine B z c M.P) (i : Int) (hi : ¬ (0 ≤ i ∧ i < (B : Int))) :
    Calls Tryz.prog 35 #[.pointer (some ⟨b, 0, none⟩), .int .i64 i] w fun e w' => e = .returned (.tuple #[.slice none 0 0, .int .i64 3]) ∧ Hid (OwnM W F w' b p x M) ∧ Hid (Minds F w w') := by
  obtain ⟨tb, mb, gp, fx, hI, hf⟩ := h.ex
  exact (mImages_no hI hF i hi).mono fun e w' ⟨h1, h2⟩ => ⟨h1, Lib.hid (h.still h2.out), Lib.hid (Minds.of h2.out)⟩
theorem oImages (h : OwnM W F w b p x M) (hF : Fine B z c M.P) (hc : c ≤ 800000) {i : Nat} (hi : i < B) :
    Calls Tryz.prog 35 #[.pointer (some ⟨b, 0, none⟩), .int .i64 (i : Nat)] w fun e w' => ∃ A k n, e = .returned (.tuple #[.slice A n k, .int .i64 0]) ∧ Hid (OwnM W F w' b p x M) ∧ Hid (Minds F w w') ∧ Hid (w'.ownsRow 0 9 1 (.slice A n k) n ((M.imgs i).map Value.string)) ∧ Hid (∀ g, (Value.slice A n k).ownBlock = some g → w.heap.size ≤ g) := by
  obtain ⟨tb, mb, gp, fx, hI, hf⟩ := h.ex
  exact (mImages_m hI hF hc hi).mono fun e w' ⟨A, k, n, h1, h2⟩ => ⟨A, k, n, h1, (h.turn hI hf h2.out.to_).1, (h.turn hI hf h2.out.to_).2, Lib.hid h2.out.own, Lib.hid h2.out.new⟩
theorem oRepairs (h : OwnM W F w b p x M) : Calls Tryz.prog 38 #[.pointer (some ⟨b, 0, none⟩)] w fun e w' => e = .returned (.int .i64 (M.reps : Nat)) ∧ w = w' := by
  obtain ⟨tb, mb, gp, fx, hI, hf⟩ := h.ex
  exact mRepairs_m hI
theorem oDegr (h : OwnM W F w b p x M) : Calls Tryz.prog 41 #[.pointer (some ⟨b, 0, none⟩)] w fun e w' => e = .returned (.bool ((M.P.dev 0).gone || (M.P.dev 1).gone)) ∧ w = w' := by
  obtain ⟨tb, mb, gp, fx, hI, hf⟩ := h.ex
  exact mDegr_m hI
theorem oPair (h : OwnM W F w b p x M) : Calls Tryz.prog 43 #[.pointer (some ⟨b, 0, none⟩)] w fun e w' => e = .returned (.pointer (some ⟨p, 0, none⟩)) ∧ w = w' := by
  obtain ⟨tb, mb, gp, fx, hI, hf⟩ := h.ex
  exact mPair_m hI
/-! the devices -/
theorem OwnM.cache_ok (_h : OwnM W F w b p x M) (hF : Fine B z c M.P) (hc : c ≤ 800000) {s : Nat} (hs : s < 2) : (M.P.dev s).cache.length < 1000000 := by have := (hF.on s hs).few; omega
/-- A device of the mirror's pair turned. -/
theorem OwnM.dev (h : OwnM W F w b p x M) {tb mb : Nat} {gp : List Nat} {fx : Nat → List Nat} (hI : IsM w b p tb mb gp x fx M) (hf : ∀ g, g = b ∨ g = tb ∨ g = mb ∨ g ∈ gp ∨ g ∈ fx 0 ∨ g ∈ fx 1 → W.heap.size ≤ g ∧ g ∉ F) {s : Nat} (hs : s < 2) {fp' : List Nat} {D' : Dev} (g : DevTo w w' (x s) (fx s) fp' D') (hd : D'.size = (M.P.dev s).size ∧ D'.sectors = (M.P.dev s).sectors) :
    Hid (OwnM W F w' b p x { M with P := M.P.setDev s D' }) ∧ Hid (Minds F w w') := h.turn hI hf (hI.pairTo (PairTo.dev hI.pair hs g hd))
theorem oGarble (h : OwnM W F w b p x M) (hF : Fine B z c M.P) (hc : c ≤ 800000) {s : Nat} (hs : s < 2) {k : Nat} (hk : k < (M.P.dev s).sectors) (a : Nat) (y : UInt8) :
    Calls Tryz.prog 33 #[.pointer (some ⟨x s, 0, none⟩), .int .i64 (k : Nat), .int .i64 (a : Nat), .int .u8 (y.toNat : Nat)] w fun e w' => e = .returned (.tuple #[]) ∧ Hid (OwnM W F w' b p x { M with P := M.P.setDev s ((M.P.dev s).garble k (a % z) y) }) ∧ Hid (Minds F w w') := by
  obtain ⟨tb, mb, gp, fx, hI, hf⟩ := h.ex
  rw [← (hF.on s hs).size]
  exact (dGarble_any (hI.pair.dev s hs) (h.cache_ok hF hc hs) hk a y).mono fun e w' ⟨h1, h2, h3⟩ => ⟨h1, h.dev hI hf hs (dev_to h2.out h3.out) ⟨rfl, rfl⟩⟩
theorem oStick (h : OwnM W F w b p x M) (hF : Fine B z c M.P) (hc : c ≤ 800000) {s : Nat} (hs : s < 2) (i : Int) :
    Calls Tryz.prog 18 #[.pointer (some ⟨x s, 0, none⟩), .int .i64 i] w fun e w' => e = .returned (.tuple #[]) ∧ Hid (OwnM W F w' b p x { M with P := M.P.setDev s ((M.P.dev s).stick i) }) ∧ Hid (Minds F w w') := by
  obtain ⟨tb, mb, gp, fx, hI, hf⟩ := h.ex
  refine (dStick_any (hI.pair.dev s hs) (h.cache_ok hF hc hs) i).mono fun e w' ⟨h1, h2, h3⟩ => ⟨h1, h.dev hI hf hs (dev_to h2.out h3.out) ?_⟩
  unfold Dev.stick
  split <;> exact ⟨rfl, rfl⟩
theorem oKill (h : OwnM W F w b p x M) {s : Nat} (hs : s < 2) :
    Calls Tryz.prog 40 #[.pointer (some ⟨x s, 0, none⟩)] w fun e w' => e = .returned (.tuple #[]) ∧ Hid (OwnM W F w' b p x { M with P := M.P.setDev s { M.P.dev s with gone := true } }) ∧ Hid (Minds F w w') := by
  obtain ⟨tb, mb, gp, fx, hI, hf⟩ := h.ex
  exact (dKill_any (hI.pair.dev s hs)).mono fun e w' ⟨h1, h2, h3⟩ => ⟨h1, h.dev hI hf hs (dev_to h2 (h3.mono (fun k hk => by rw [List.mem_singleton.1 hk]; exact (hI.pair.dev s hs).head))) ⟨rfl, rfl⟩⟩
theorem Dev.write_shape (D : Dev) (i : Int) (y : ByteArray) : (D.write i y).2.size = D.size ∧ (D.write i y).2.sectors = D.sectors := by
  obtain ⟨k1, k2, _⟩ := Dev.burn_same D
  have hp : ∀ (E : Dev) (q : Nat), (E.put q y).size = E.size ∧ (E.put q y).sectors = E.sectors := fun E q => by
    unfold Dev.put
    simp only
    split
    · split <;> exact ⟨rfl, rfl⟩
    · split <;> exact ⟨rfl, rfl⟩
  unfold Dev.write
  split
  · exact ⟨rfl, rfl⟩
  · split
    · exact ⟨rfl, rfl⟩
    · split
      · exact ⟨rfl, rfl⟩
      · split
        · exact ⟨k2, k1⟩
        · split
          · exact ⟨k2, k1⟩
          · exact ⟨(hp _ _).1.trans k2, (hp _ _).2.trans k1⟩
theorem oDWrite (h : OwnM W F w b p x M) (hF : Fine B z c M.P) (hc : c ≤ 800000) {s : Nat} (hs : s < 2) (i : Int) (y : ByteArray) :
    Calls Tryz.prog 31 #[.pointer (some ⟨x s, 0, none⟩), .int .i64 i, .string y] w fun e w' => e = .returned (.int .i64 (((M.P.dev s).write i y).1 : Nat)) ∧ Hid (OwnM W F w' b p x { M with P := M.P.setDev s ((M.P.dev s).write i y).2 }) ∧ Hid (Minds F w w') := by
  obtain ⟨tb, mb, gp, fx, hI, hf⟩ := h.ex
  exact (dWrite_any (hI.pair.dev s hs) (h.cache_ok hF hc hs) i y).mono fun e w' ⟨h1, ⟨fp', h2, h4⟩, h3⟩ => ⟨h1, h.dev hI hf hs ⟨h2, h4, h3⟩ (Dev.write_shape _ _ _)⟩
end
end Go.Proofs.YtnpfhfgegjocoaaGreat
/- The mirror, its devices there: what reads, plainly. -/
namespace Go.Proofs.YtnpfhfgegjocoaaGreat

/-- No block's sector is bad. -/
def Sound (P : Pr) : Prop := ∀ d, d < 2 → ∀ j, 4 ≤ j → (P.dev d).bad.getD j false = false
theorem Sound.alike {P P' : Pr} (h : Sound P) (g : Alike P P') : Sound P' := fun d hd j hj => by rw [g.bad d hd]; exact h d hd j hj
/-- A mirror whose devices are there: B blocks of z bytes, n spares. -/
structure Gm (B z n c : Nat) (M : Mi) : Prop where
  pi : PI M.P
  nn : M.P.n = n
  size : (M.P.dev 0).size = z
  blocks : ∀ s, s < 2 → (M.P.tab s).blocks = B
  few : ∀ d, d < 2 → (M.P.dev d).cache.length ≤ c
  bad : M.bl ≠ [] → ∃ s, s < 2 ∧ (M.P.tab s).moved.length = n
theorem write_nine : ∀ (k : Nat) (P : Pr) (s i : Nat) (x : ByteArray), PI P → s < 2 → i < (P.tab s).blocks → x.size = (P.dev 0).size → ∀ P', Pr.write k P s (i : Int) x = (9, P') → (P'.read s (i : Int)).2 = 7
  | 0, P, s, i, x, _, _, _, _, P', e => by simp [Pr.write] at e
  | k + 1, P, s, i, x, h, hs, hi, hx, P', e => by
    cases hb : (P.dev s).bad.getD (((P.tab s).at_ (i : Int)).1 + 4) false with
    | false =>
      obtain ⟨P1, h1, _⟩ := write_good h hs hi hx hb k
      rw [h1] at e
      injection e with e _
      cases e
    | true =>
      rw [write_bad h hs hi hx hb k] at e
      by_cases hm : (P.tab s).moved.length < (P.tab s).spares
      · have hmv := Tab.mv_ok hi hm
        obtain ⟨P1, e1, hP1, ht1, hst1, hc1⟩ := move_inv (i := (i : Int)) h hs (by rw [hmv])
        rw [e1] at e
        simp only [ne_eq, not_true_eq_false, if_false] at e
        refine write_nine k P1 s i x hP1 hs ?_ (by rw [(hst1.same 0 (by decide)).size]; exact hx) P' e
        rw [ht1]
        simp
        exact hi
      · have hmv := Tab.mv_full hi hm
        have e1 : P.move s (i : Int) = (9, P) := by unfold Pr.move; rw [hmv]; simp
        rw [e1] at e
        simp only [ne_eq] at e
        rw [if_pos (by simp)] at e
        injection e with _ e
        rw [← e, read_bad h hs hi hb]
section
variable {B z n c : Nat} {M : Mi}
theorem Gm.fine (h : Gm B z n c M) : Fine B z c M.P :=
  ⟨fun d hd => ⟨(h.pi.inv.dev d hd).q.off, (h.pi.inv.dev d hd).q.fuse, (h.pi.inv.same d hd).1.trans h.size, h.few d hd⟩, fun s hs => (h.pi.slots s hs).spares, h.blocks⟩
theorem Gm.mono {c' : Nat} (h : Gm B z n c M) (hl : c ≤ c') : Gm B z n c' M := ⟨h.pi, h.nn, h.size, h.blocks, fun d hd => Nat.le_trans (h.few d hd) hl, h.bad⟩
theorem Gm.n_le (h : Gm B z n c M) : M.P.n ≤ 32 := h.pi.inv.fit.2.1
theorem Gm.gone (h : Gm B z n c M) {d : Nat} (hd : d < 2) : (M.P.dev d).gone = false := (h.pi.inv.dev d hd).q.gone
theorem Gm.none (h : Gm B z n c M) (o : Nat) : M.none o = o := by unfold Mi.none; rw [h.gone (by decide)]; simp
theorem Gm.moved_le (h : Gm B z n c M) {s : Nat} (hs : s < 2) : (M.P.tab s).moved.length ≤ n := by
  have := (h.pi.slots s hs).tok.len
  rw [(h.pi.slots s hs).spares, h.nn] at this
  exact this
/-- A put: its answer, what reads then, and the rest. -/
theorem Gm.put (h : Gm B z n c M) {s i : Nat} (hs : s < 2) (hi : i < B) {x : ByteArray} (hx : x.size = z) :
    ∃ k M', M.put s i x = (k, M') ∧ Gm B z n (c + 1) M' ∧ M'.reps = M.reps ∧ (∀ d j, d < 2 → j < B → (d ≠ s ∨ j ≠ i) → M'.P.read d (j : Int) = M.P.read d (j : Int)) ∧
      (k = 0 ∧ M'.P.read s (i : Int) = (x, 0) ∨ k = 9 ∧ (M.P.read s (i : Int)).2 = 7 ∧ (M'.P.read s (i : Int)).2 = 7 ∧ (M'.P.tab s).moved.length = n) ∧
      (∀ d, d < 2 → (M.P.tab d).moved.length = n → (M'.P.tab d).moved.length = n) ∧ Alike M.P M'.P ∧ (k = 0 → M.bl = [] → M'.bl = []) := by
  have hib : i < (M.P.tab s).blocks := by rw [h.blocks s hs]; exact hi
  have hxs : x.size = (M.P.dev 0).size := by rw [hx, h.size]
  have hsp := (h.pi.slots s hs).spares
  obtain ⟨k, P', m, w1, w2, w3, w4, w5, w6⟩ := write_inv (M.P.n + 1) M.P s i x h.pi hs hib hxs (by rw [hsp]; omega)
  obtain ⟨_, al, _⟩ := Fine.write (M.P.n + 1) h.fine hs (i : Int) x
  rw [w1] at al
  have hts : P'.tab s = (M.P.tab s).moves m i := by rw [w3]; simp
  have hto : ∀ d, d ≠ s → P'.tab d = M.P.tab d := fun d hd => by rw [w3]; simp [hd]
  have hblk : ∀ d, d < 2 → (P'.tab d).blocks = B := fun d hd => by
    by_cases e : d = s
    · rw [e, hts]; exact h.blocks s hs
    · rw [hto d e]; exact h.blocks d hd
  have hn' : P'.n = n := w4.n.trans h.nn
  have hsp' : ∀ d, d < 2 → (P'.tab d).spares = n := fun d hd => by rw [(w2.slots d hd).spares, hn']
  have hfull : ∀ d, d < 2 → (M.P.tab d).moved.length = n → (P'.tab d).moved.length = n := fun d hd e => by
    by_cases e2 : d = s
    · have hl := (w2.slots d hd).tok.len
      rw [hsp' d hd] at hl
      have : (M.P.tab d).moved.length ≤ (P'.tab d).moved.length := by
        rw [e2, hts]
        show _ ≤ ((M.P.tab s).moved ++ List.replicate m i).length
        simp
      omega
    · rw [hto d e2]; exact e
  have hput : M.put s i x = (k, { M with P := P', bl := if k = 9 then addB M.bl (s, i) else if k = 0 then remB M.bl (s, i) else M.bl }) := by unfold Mi.put; simp only; rw [w1]
  refine ⟨k, _, hput, ⟨w2, hn', ?_, hblk, fun d hd => ?_, fun hb => ?_⟩, rfl, fun d j hd hj hne => ?_, ?_, hfull, al, fun k0 hb => ?_⟩
  · show (P'.dev 0).size = z
    rw [(w4.same 0 (by decide)).size]; exact h.size
  · have h1 := w6 d hd
    have h2 := h.few d hd
    show (P'.dev d).cache.length ≤ c + 1
    omega
  · show ∃ s, s < 2 ∧ (P'.tab s).moved.length = n
    rcases w5 with ⟨k0, _⟩ | ⟨k9, h9, _⟩
    · have hbl : M.bl ≠ [] := fun e => hb (by
        subst k0
        show (if (0 : Nat) = 9 then addB M.bl (s, i) else if (0 : Nat) = 0 then remB M.bl (s, i) else M.bl) = []
        rw [if_neg (by decide), if_pos rfl, e]; rfl)
      obtain ⟨q, hq, hq2⟩ := h.bad hbl
      exact ⟨q, hq, hfull q hq hq2⟩
    · exact ⟨s, hs, by rw [h9, hsp' s hs]⟩
  · have hjb : j < (M.P.tab d).blocks := by rw [h.blocks d hd]; exact hj
    refine read_stays h.pi w2 w4 hd hjb (by rw [hblk d hd, h.blocks d hd]) ?_ ⟨by omega, fun e => ?_⟩
    · by_cases e : d = s
      · subst e
        rw [hts]
        exact Tab.at_moveds hjb (by rcases hne with h1 | h1; exact absurd rfl h1; exact fun e => h1 e.symm) m
      · rw [hto d e]
    · subst e
      have hne' : j ≠ i := by rcases hne with h1 | h1; exact absurd rfl h1; exact h1
      have ha : (P'.tab d).at_ (j : Int) = (M.P.tab d).at_ (j : Int) := by rw [hts]; exact Tab.at_moveds hjb (fun e => hne' e.symm) m
      rw [← ha]
      intro e
      exact hne' (Tab.at_inj (by rw [hblk d hd]; exact hj) (by rw [hblk d hd]; exact hi) (by omega))
  · rcases w5 with ⟨k0, hr⟩ | ⟨k9, h9, hr⟩
    · exact .inl ⟨k0, hr⟩
    · subst k9
      exact .inr ⟨rfl, hr, write_nine _ _ _ _ _ h.pi hs hib hxs _ w1, by show (P'.tab s).moved.length = n; rw [h9, hsp' s hs]⟩
  · subst k0
    show (if (0 : Nat) = 9 then addB M.bl (s, i) else if (0 : Nat) = 0 then remB M.bl (s, i) else M.bl) = []
    rw [if_neg (by decide), if_pos rfl, hb]; rfl
/-- A put of a block whose sector is bad, where no spare is left. -/
theorem Gm.put_full (h : Gm B z n c M) {s i : Nat} (hs : s < 2) (hi : i < B) {x : ByteArray} (hx : x.size = z) (hr : (M.P.read s (i : Int)).2 = 7) (hf : (M.P.tab s).moved.length = n) :
    (M.put s i x).1 = 9 ∧ (M.put s i x).2.P = M.P := by
  have hib : i < (M.P.tab s).blocks := by rw [h.blocks s hs]; exact hi
  have hb : (M.P.dev s).bad.getD (((M.P.tab s).at_ (i : Int)).1 + 4) false = true := by
    cases hb : (M.P.dev s).bad.getD (((M.P.tab s).at_ (i : Int)).1 + 4) false with
    | true => rfl
    | false => rw [read_ok h.pi hs hib hb] at hr; cases hr
  have hw := write_bad h.pi hs hib (x := x) (by rw [hx, h.size]) hb M.P.n
  have hmv := Tab.mv_full hib (by rw [hf, (h.pi.slots s hs).spares, h.nn]; omega)
  have e1 : M.P.move s (i : Int) = (9, M.P) := by unfold Pr.move; rw [hmv]; simp
  rw [e1] at hw
  simp only [ne_eq] at hw
  rw [if_pos (by simp)] at hw
  unfold Mi.put
  simp only
  rw [hw]
  exact ⟨rfl, rfl⟩
/-- A put where no sector is bad. -/
theorem Gm.put_ok (h : Gm B z n c M) (hn : Sound M.P) {s i : Nat} (hs : s < 2) (hi : i < B) {x : ByteArray} (hx : x.size = z) :
    ∃ M', M.put s i x = (0, M') ∧ Gm B z n (c + 1) M' ∧ Sound M'.P ∧ M'.reps = M.reps ∧ M'.P.tab = M.P.tab ∧ M'.P.read s (i : Int) = (x, 0) ∧ (∀ d j, d < 2 → j < B → (d ≠ s ∨ j ≠ i) → M'.P.read d (j : Int) = M.P.read d (j : Int)) ∧ (M.bl = [] → M'.bl = []) := by
  obtain ⟨k, M', e, g, r, o, q, _, al, bl⟩ := h.put hs hi hx
  have hib : i < (M.P.tab s).blocks := by rw [h.blocks s hs]; exact hi
  have hb := hn s hs (((M.P.tab s).at_ (i : Int)).1 + 4) (by omega)
  rcases q with ⟨rfl, hr⟩ | ⟨_, hr, _⟩
  · obtain ⟨P1, e1, _, t1, _⟩ := write_good h.pi hs hib (x := x) (by rw [hx, h.size]) hb M.P.n
    have hP : M'.P = P1 := by
      have e2 := congrArg (fun y : Nat × Mi => y.2.P) e
      simp only at e2
      rw [← e2]
      unfold Mi.put
      simp only
      rw [e1]
    exact ⟨M', e, g, hn.alike al, r, by rw [hP, t1], hr, o, bl rfl⟩
  · rw [read_ok h.pi hs hib hb] at hr; cases hr
/-- A write where no sector is bad. -/
theorem Gm.write_ok (h : Gm B z n c M) (hn : Sound M.P) {i : Nat} (hi : i < B) {x : ByteArray} (hx : x.size = z) :
    ∃ M', M.write i x = (0, M') ∧ Gm B z n (c + 2) M' ∧ Sound M'.P ∧ M'.reps = M.reps ∧ M'.P.tab = M.P.tab ∧ (∀ s, s < 2 → M'.P.read s (i : Int) = (x, 0)) ∧ (∀ d j, d < 2 → j < B → j ≠ i → M'.P.read d (j : Int) = M.P.read d (j : Int)) ∧ (M.bl = [] → M'.bl = []) := by
  obtain ⟨M1, e1, g1, n1, r1, t1, x1, o1, b1⟩ := h.put_ok hn (s := 0) (by decide) hi hx
  obtain ⟨M2, e2, g2, n2, r2, t2, x2, o2, b2⟩ := g1.put_ok n1 (s := 1) (by decide) hi hx
  refine ⟨M2, ?_, g2, n2, r2.trans r1, t2.trans t1, fun s hs => ?_, fun d j hd hj hne => (o2 d j hd hj (.inr hne)).trans (o1 d j hd hj (.inr hne)), fun hb => b2 (b1 hb)⟩
  · unfold Mi.write
    simp only
    rw [e1]
    simp only
    rw [e2]
    simp
  · rcases two_cases hs with rfl | rfl
    · exact (o2 0 i (by decide) hi (.inl (by decide))).trans x1
    · exact x2
/-- A flush. -/
theorem Gm.flush (h : Gm B z n c M) : ∃ M', M.flush = (0, M') ∧ Gm B z n c M' ∧ Alike M.P M'.P ∧ M'.reps = M.reps ∧ M'.bl = M.bl ∧ M'.P.tab = M.P.tab ∧ (∀ d j, d < 2 → j < B → M'.P.read d (j : Int) = M.P.read d (j : Int)) ∧ (∀ d, d < 2 → (M'.P.dev d).cache = []) := by
  obtain ⟨D0, e0, q0, s0, c0⟩ := dflush_inv (h.pi.inv.dev 0 (by decide))
  obtain ⟨p1, st1⟩ := h.pi.setDev (s := 0) (by decide) q0 s0 (fun _ _ => trivial)
  obtain ⟨D1, e1, q1, s1, c1⟩ := dflush_inv (h.pi.inv.dev 1 (by decide))
  have hd1 : (M.P.setDev 0 D0).dev 1 = M.P.dev 1 := rfl
  obtain ⟨p2, st2⟩ := p1.setDev (s := 1) (by decide) q1 (by rw [hd1]; exact s1) (fun _ _ => trivial)
  have hf0 : M.P.flush 0 = (0, M.P.setDev 0 D0) := by unfold Pr.flush; rw [e0]
  have hf1 : (M.P.setDev 0 D0).flush 1 = (0, (M.P.setDev 0 D0).setDev 1 D1) := by unfold Pr.flush; rw [hd1, e1]
  have hfl : M.flush = (0, { M with P := (M.P.setDev 0 D0).setDev 1 D1 }) := by
    unfold Mi.flush
    rw [hf0]
    simp only
    rw [hf1]
    simp only
    congr 1
    unfold Mi.none
    show (if (D0.gone && D1.gone) = true then 8 else 0) = 0
    rw [q0.q.gone]; simp
  have al : Alike M.P ((M.P.setDev 0 D0).setDev 1 D1) := by
    obtain ⟨f1, a1, _⟩ := h.fine.flush (s := 0) (by decide)
    rw [hf0] at f1 a1
    obtain ⟨_, a2, _⟩ := f1.flush (s := 1) (by decide)
    rw [hf1] at a2
    exact a1.trans a2
  have st := (st1.mono (fun (d j : Nat) (_ : True) => (fun _ => trivial : d = 0 → True))).trans (st2.mono (fun (d j : Nat) (_ : True) => (fun _ => trivial : d = 1 → True)))
  have hc : ∀ d, d < 2 → (((M.P.setDev 0 D0).setDev 1 D1).dev d).cache = [] := fun d hd => by
    rcases two_cases hd with rfl | rfl
    · exact c0
    · exact c1
  refine ⟨_, hfl, ⟨p2, st.n.trans h.nn, ?_, h.blocks, fun d hd => by show (((M.P.setDev 0 D0).setDev 1 D1).dev d).cache.length ≤ c; rw [hc d hd]; exact Nat.zero_le _, h.bad⟩, al, rfl, rfl, rfl, fun d j hd hj => ?_, hc⟩
  · exact (st.same 0 (by decide)).size.trans h.size
  · exact read_stays h.pi p2 st hd (by rw [h.blocks d hd]; exact hj) rfl rfl trivial
/-- A repair. -/
theorem Gm.repair_eq (h : Gm B z n c M) {s : Nat} (hs : s < 2) (i : Nat) (x : ByteArray) : M.repair s i x = (decide ((M.put s i x).1 = 0), if (M.put s i x).1 = 0 then { (M.put s i x).2 with reps := (M.put s i x).2.reps + 1 } else (M.put s i x).2) := by
  unfold Mi.repair
  rw [if_neg (by rw [h.gone hs]; decide)]
theorem Gm.same (h : Gm B z n c M) {M' : Mi} (hP : M'.P = M.P) (hb : M'.bl = M.bl) : Gm B z n c M' := ⟨by rw [hP]; exact h.pi, by rw [hP]; exact h.nn, by rw [hP]; exact h.size, by rw [hP]; exact h.blocks, by rw [hP]; exact h.few, by rw [hP, hb]; exact h.bad⟩
end
end Go.Proofs.YtnpfhfgegjocoaaGreat
/- What harms a copy of a block, plainly: garbled, overwritten, stuck. -/
namespace Go.Proofs.YtnpfhfgegjocoaaGreat

theorem late_garb (k a : Nat) (y : UInt8) : ∀ (c : List (Nat × ByteArray)) (j : Nat), Dev.late (c.map (garbC k a y)) j = (Dev.late c j).map fun s => if j = k then turnB s a y else s
  | [], _ => rfl
  | x :: c, j => by
    rw [List.map_cons, Dev.late_cons, Dev.late_cons, late_garb k a y c j]
    have hx : (garbC k a y x).1 = x.1 := by unfold garbC; split <;> rfl
    rw [hx]
    cases Dev.late c j with
    | some s => rfl
    | none =>
      by_cases hj : x.1 = j
      · rw [if_pos hj, if_pos hj]
        unfold garbC
        subst hj
        by_cases hk : x.1 = k
        · simp [hk]
        · simp [hk]
      · rw [if_neg hj, if_neg hj]; rfl
theorem garble_cur {D : Dev} (ho : D.Ok) {k : Nat} (hk : k < D.sectors) (a : Nat) (y : UInt8) (j : Nat) : (D.garble k a y).cur j = if j = k then turnB (D.cur k) a y else D.cur j := by
  unfold Dev.cur
  show (Dev.late (D.cache.map (garbC k a y)) j).getD ((D.media.set k (turnB (D.media.getD k ⟨#[]⟩) a y)).getD j ⟨#[]⟩) = _
  rw [late_garb]
  by_cases hj : j = k
  · subst hj
    rw [if_pos rfl]
    cases Dev.late D.cache j with
    | some s => simp
    | none =>
      simp only [Option.map_none, Option.getD_none]
      rw [List.getD_eq_getElem?_getD, List.getElem?_set_self (by rw [ho.media]; exact hk)]; rfl
  · rw [if_neg hj]
    cases Dev.late D.cache j with
    | some s => simp [hj]
    | none =>
      simp only [Option.map_none, Option.getD_none]
      rw [List.getD_eq_getElem?_getD, List.getElem?_set_ne (fun e => hj e.symm), ← List.getD_eq_getElem?_getD]
theorem dgarble_inv {D : Dev} (h : DevQ D) {k : Nat} (_h4 : 4 ≤ k) (hk : k < D.sectors) (a : Nat) (y : UInt8) : DevQ (D.garble k a y) ∧ Dev.Same D (D.garble k a y) (· ≠ k) ∧ (D.garble k a y).bad = D.bad ∧ (D.garble k a y).cache.length = D.cache.length := by
  refine ⟨⟨⟨h.q.off, h.q.gone, h.q.fuse, h.q.lose, h.q.stray⟩, ⟨?_, h.ok.bad, h.ok.sec, h.ok.size0, h.ok.size1, fun s hs => ?_, fun x hx => ?_⟩, h.sec, h.bad, fun x hx => ?_⟩, ⟨rfl, rfl, fun _ _ => rfl, fun j _ hj => ?_⟩, rfl, List.length_map _⟩
  · show (D.media.set k _).length = D.sectors
    rw [List.length_set]; exact h.ok.media
  · rcases List.mem_or_eq_of_mem_set hs with h1 | h1
    · exact h.ok.each s h1
    · rw [h1, turnB_size]
      have hl : k < D.media.length := by rw [h.ok.media]; exact hk
      rw [List.getD_eq_getElem?_getD, List.getElem?_eq_getElem hl]
      exact h.ok.each _ (List.getElem_mem hl)
  · obtain ⟨z, hz, rfl⟩ := List.mem_map.1 hx
    have := h.ok.cache z hz
    unfold garbC
    split
    · exact ⟨this.1, by rw [turnB_size]; exact this.2⟩
    · exact this
  · obtain ⟨z, hz, rfl⟩ := List.mem_map.1 hx
    have := h.cache z hz
    unfold garbC
    split <;> exact this
  · rw [garble_cur h.ok hk, if_neg hj]
section
variable {B z n c : Nat} {M : Mi}
/-- No block was moved. -/
def Still (B n : Nat) (P : Pr) : Prop := ∀ s, s < 2 → P.tab s = ⟨B, n, []⟩
theorem Still.at_ {P : Pr} (h : Still B n P) {s i : Nat} (hs : s < 2) (hi : i < B) : ((P.tab s).at_ (i : Int)).1 = i := by
  rw [h s hs, Tab.at_in (by exact hi)]; rfl
theorem Gm.sec (h : Gm B z n c M) (ht : Still B n M.P) {s i : Nat} (hs : s < 2) (hi : i < B) : i + 4 < (M.P.dev s).sectors := by
  have := h.pi.at_lt hs (i := i) (by rw [h.blocks s hs]; exact hi)
  rw [ht.at_ hs hi] at this
  exact this
theorem Gm.read_dev (h : Gm B z n c M) (ht : Still B n M.P) {s i : Nat} (hs : s < 2) (hi : i < B) : M.P.read s (i : Int) = (M.P.dev s).read ((i + 4 : Nat) : Int) := by
  rw [read_in (by rw [h.blocks s hs]; exact hi), ht.at_ hs hi]
/-- A device turned in one block's sector. -/
theorem Gm.device (h : Gm B z n c M) (ht : Still B n M.P) {s i : Nat} (hs : s < 2) (_hi : i < B) {D' : Dev} (hq : DevQ D') (hsm : Dev.Same (M.P.dev s) D' (· ≠ i + 4)) {c' : Nat} (hc : c ≤ c') (hl : D'.cache.length ≤ c') :
    Gm B z n c' { M with P := M.P.setDev s D' } ∧ Still B n (M.P.setDev s D') ∧ (∀ d j, d < 2 → j < B → (d ≠ s ∨ j ≠ i) → (M.P.setDev s D').read d (j : Int) = M.P.read d (j : Int)) := by
  obtain ⟨p1, st⟩ := h.pi.setDev hs hq hsm (fun j hj => by omega)
  refine ⟨⟨p1, h.nn, (st.same 0 (by decide)).size.trans h.size, h.blocks, fun d hd => ?_, h.bad⟩, ht, fun d j hd hj hne => ?_⟩
  · show (if d = s then D' else M.P.dev d).cache.length ≤ c'
    split
    · exact hl
    · exact Nat.le_trans (h.few d hd) hc
  · refine read_stays h.pi p1 st hd (by rw [h.blocks d hd]; exact hj) rfl rfl (fun e => ?_)
    rw [ht.at_ hd hj]
    rcases hne with h1 | h1
    · exact absurd e h1
    · omega
/-- A block's copy is garbled. -/
theorem Gm.garble (h : Gm B z n c M) (ht : Still B n M.P) {s i : Nat} (hs : s < 2) (hi : i < B) (a : Nat) (y : UInt8) :
    Gm B z n c { M with P := M.P.setDev s ((M.P.dev s).garble (i + 4) a y) } ∧ Still B n (M.P.setDev s ((M.P.dev s).garble (i + 4) a y)) ∧ (Sound M.P → Sound (M.P.setDev s ((M.P.dev s).garble (i + 4) a y))) ∧
      (∀ d j, d < 2 → j < B → (d ≠ s ∨ j ≠ i) → (M.P.setDev s ((M.P.dev s).garble (i + 4) a y)).read d (j : Int) = M.P.read d (j : Int)) ∧
      (∀ X, M.P.read s (i : Int) = (X, 0) → (M.P.setDev s ((M.P.dev s).garble (i + 4) a y)).read s (i : Int) = (turnB X a y, 0)) := by
  have hk := h.sec ht hs hi
  obtain ⟨q1, q2, q3, q4⟩ := dgarble_inv (h.pi.inv.dev s hs) (k := i + 4) (by omega) hk a y
  obtain ⟨g1, g2, g3⟩ := h.device ht hs hi q1 q2 (Nat.le_refl c) (by rw [q4]; exact h.few s hs)
  refine ⟨g1, g2, fun hn d hd j hj => ?_, g3, fun X hX => ?_⟩
  · show (if d = s then (M.P.dev s).garble (i + 4) a y else M.P.dev d).bad.getD j false = false
    split
    · rw [q3]; exact hn s hs j hj
    · exact hn d hd j hj
  · rw [h.read_dev ht hs hi] at hX
    have hr := g1.read_dev g2 hs hi
    simp only at hr
    rw [hr, Pr.setDev_at]
    have hq := (h.pi.inv.dev s hs).q
    unfold Dev.read at hX ⊢
    rw [if_neg (by rw [hq.ready]; simp), if_neg (by rw [Dev.isS_of hk]; simp), Int.toNat_natCast] at hX
    rw [if_neg (by rw [q1.q.ready]; simp), if_neg (by rw [Dev.isS_of (by exact hk)]; simp), Int.toNat_natCast, q3]
    cases hb : (M.P.dev s).bad.getD (i + 4) false with
    | true => rw [hb] at hX; simp at hX
    | false =>
      rw [hb] at hX
      simp only [Bool.false_eq_true, if_false] at hX ⊢
      injection hX with hX _
      rw [garble_cur (h.pi.inv.dev s hs).ok hk, if_pos rfl, hX]
/-- A block's copy is written to by itself. -/
theorem Gm.dwrite (h : Gm B z n c M) (ht : Still B n M.P) {s i : Nat} (hn : (M.P.dev s).bad.getD (i + 4) false = false) (hs : s < 2) (hi : i < B) {x : ByteArray} (hx : x.size = z) :
    ∃ D', (M.P.dev s).write ((i + 4 : Nat) : Int) x = (0, D') ∧ Gm B z n (c + 1) { M with P := M.P.setDev s D' } ∧ Still B n (M.P.setDev s D') ∧ (Sound M.P → Sound (M.P.setDev s D')) ∧
      (∀ d j, d < 2 → j < B → (d ≠ s ∨ j ≠ i) → (M.P.setDev s D').read d (j : Int) = M.P.read d (j : Int)) ∧ (M.P.setDev s D').read s (i : Int) = (x, 0) := by
  have hk := h.sec ht hs hi
  have hxs : x.size = (M.P.dev s).size := by rw [hx, (h.pi.inv.same s hs).1, h.size]
  obtain ⟨D', e, q1, q2, q3, q4⟩ := dwrite_inv (h.pi.inv.dev s hs) (k := i + 4) (by omega) hk hn hxs
  obtain ⟨_, _, hb, _, _⟩ := (h.fine.on s hs).write ((i + 4 : Nat) : Int) x
  rw [e] at hb
  simp only at hb
  obtain ⟨g1, g2, g3⟩ := h.device ht hs hi q1 q2 (Nat.le_succ c) (by have := h.few s hs; omega)
  refine ⟨D', e, g1, g2, fun hn d hd j hj => ?_, g3, ?_⟩
  · show (if d = s then D' else M.P.dev d).bad.getD j false = false
    split
    · rw [hb]; exact hn s hs j hj
    · exact hn d hd j hj
  · have hr := g1.read_dev g2 hs hi
    simp only at hr
    rw [hr, Pr.setDev_at]
    unfold Dev.read
    rw [if_neg (by rw [q1.q.ready]; simp), if_neg (by rw [Dev.isS_of (by rw [q2.sectors]; exact hk)]; simp), Int.toNat_natCast, hb, hn, q3]
    simp
/-- A block's sector is bad. -/
theorem Gm.stick (h : Gm B z n c M) (ht : Still B n M.P) {s i : Nat} (hs : s < 2) (hi : i < B) :
    Gm B z n c { M with P := M.P.setDev s ((M.P.dev s).stick ((i + 4 : Nat) : Int)) } ∧ Still B n (M.P.setDev s ((M.P.dev s).stick ((i + 4 : Nat) : Int))) ∧
      (∀ d j, d < 2 → j < B → (d ≠ s ∨ j ≠ i) → (M.P.setDev s ((M.P.dev s).stick ((i + 4 : Nat) : Int))).read d (j : Int) = M.P.read d (j : Int)) ∧
      (∀ d, d < 2 → ∀ j, (d ≠ s ∨ j ≠ i + 4) → ((M.P.setDev s ((M.P.dev s).stick ((i + 4 : Nat) : Int))).dev d).bad.getD j false = (M.P.dev d).bad.getD j false) ∧
      ((M.P.setDev s ((M.P.dev s).stick ((i + 4 : Nat) : Int))).read s (i : Int)).2 = 7 := by
  have hk := h.sec ht hs hi
  obtain ⟨q1, q2, q3, q4⟩ := dstick_inv (h.pi.inv.dev s hs) (k := i + 4) (by omega) hk
  obtain ⟨g1, g2, g3⟩ := h.device ht hs hi q1 q2 (Nat.le_refl c) (Nat.le_trans q4 (h.few s hs))
  refine ⟨g1, g2, g3, fun d hd j hj => ?_, ?_⟩
  · show (if d = s then (M.P.dev s).stick ((i + 4 : Nat) : Int) else M.P.dev d).bad.getD j false = _
    split
    · rename_i e
      rw [e]
      rcases hj with h1 | h1
      · exact absurd e h1
      · exact q2.bad j h1
    · rfl
  · have hr := read_bad g1.pi hs (i := i) (by show i < (M.P.tab s).blocks; rw [h.blocks s hs]; exact hi) (by
      show (((M.P.setDev s ((M.P.dev s).stick ((i + 4 : Nat) : Int))).dev s)).bad.getD (((M.P.tab s).at_ (i : Int)).1 + 4) false = true
      rw [Pr.setDev_at, ht.at_ hs hi]; exact q3)
    simp only at hr
    rw [hr]
end
end Go.Proofs.YtnpfhfgegjocoaaGreat
/- Read and Check of a block, plainly: where one copy is whole and no other one is taken for it. -/
namespace Go.Proofs.YtnpfhfgegjocoaaGreat

/-- An image that was sealed, and what is known of it. -/
structure ImgOf (X : ByteArray) (q : PtrE) (z a g : Nat) (t : ByteArray) : Prop where
  size : X.size = z
  meets : meetsL q X.toList = true
  opens : openL X.toList = some (⟨4, (a : Int), g⟩, t.toList)
  addr : q.addr = (a : Int)
  gen : q.gen = g
theorem imgOf {z a g : Nat} (hz : 128 ≤ z) (hz1 : z ≤ 1024) (ha : a ≤ 2147483647) (hg : g < 18446744073709551616) (t : ByteArray) (ht : t.size + 24 ≤ z) :
    ImgOf (bA (sealL z ⟨4, (a : Int), g⟩ t.toList)) (ptrOf z ⟨4, (a : Int), g⟩ t.toList) z a g t := by
  have hs : sizedE (z : Int) = true := by unfold sizedE; simp; omega
  have hr : EHead.right ⟨4, (a : Int), g⟩ = true := by unfold EHead.right placedE; simp; omega
  have hp : t.toList.length + 24 ≤ z := by rw [Lib.toList_data, Array.length_toList]; exact ht
  refine ⟨by rw [bA_size, sealL_len _ hp], ?_, ?_, rfl, rfl⟩
  · rw [bA_list]; exact seal_meets hs hr hg hp
  · rw [bA_list]; exact open_seal hs hr hg hp
theorem turnB_ne {X : ByteArray} {k : Nat} {y : UInt8} (hk : k < X.size) (hy : y ≠ 0) : turnB X k y ≠ X := by
  intro e
  have h1 := congrArg ByteArray.toList e
  rw [turnB_list] at h1
  have hl : k < X.toList.length := by rw [Lib.toList_data, Array.length_toList]; exact hk
  have h2 := congrArg (fun l : List UInt8 => l[k]?) h1
  simp only [List.getElem?_set_self hl, List.getElem?_eq_getElem hl, Option.some.injEq, List.getD_eq_getElem?_getD, Option.getD_some] at h2
  apply hy
  have h3 := congrArg (fun v => X.toList[k] ^^^ v) h2
  simp only [← UInt8.xor_assoc, UInt8.xor_self, UInt8.zero_xor] at h3
  exact h3
theorem turnB_meets {q : PtrE} {X : ByteArray} {k : Nat} {y : UInt8} (h : meetsL q X.toList = true) (h2 : meetsL q (turnB X k y).toList = true) : turnB X k y = X := by
  have h3 := h2
  rw [turnB_list] at h3
  have h4 := meets_one h h3
  rw [← bA_of (turnB X k y), turnB_list, h4, bA_of]
section
variable {B z n c : Nat} {M : Mi}
theorem Mi.has_iff {q : PtrE} {s i : Nat} {X : ByteArray} (hr : M.P.read s (i : Int) = (X, 0)) : M.has q s i = meetsL q X.toList := by
  unfold Mi.has
  rw [hr]; simp
/-- The copies of a block: one is whole, and no other image is taken for it. -/
structure Cop (M : Mi) (q : PtrE) (X : ByteArray) (i : Nat) : Prop where
  only : ∀ s, s < 2 → M.has q s i = true → M.P.read s (i : Int) = (X, 0)
  one : ∃ s, s < 2 ∧ M.P.read s (i : Int) = (X, 0)
  meets : meetsL q X.toList = true
theorem Cop.whole {q : PtrE} {X : ByteArray} {i : Nat} (h : Cop M q X i) : ∃ s, s < 2 ∧ M.whole q i = (X, s, 0) ∧ (∀ k, k < s → M.has q k i = false) ∧ M.P.read s (i : Int) = (X, 0) := by
  obtain ⟨s, hs, hr⟩ := h.one
  have hh : M.has q s i = true := by rw [Mi.has_iff hr]; exact h.meets
  cases h0 : M.has q 0 i with
  | true =>
    have h1 := h.only 0 (by decide) h0
    exact ⟨0, by decide, by rw [Mi.whole_at (by decide) (fun k hk => by omega) h0, h1], fun k hk => by omega, h1⟩
  | false =>
    have e : s = 1 := by
      rcases two_cases hs with rfl | rfl
      · rw [h0] at hh; cases hh
      · rfl
    subst e
    exact ⟨1, by decide, by rw [Mi.whole_at (by decide) (fun k hk => by rw [show k = 0 by omega]; exact h0) hh, hr], fun k hk => by rw [show k = 0 by omega]; exact h0, hr⟩
/-- A side's copy is whole, or its sector is bad and no spare is left. -/
def Done (n : Nat) (M : Mi) (X : ByteArray) (i s : Nat) : Prop := M.P.read s (i : Int) = (X, 0) ∨ (M.P.read s (i : Int)).2 = 7 ∧ (M.P.tab s).moved.length = n
/-- What turned between two mirrors, but block i. -/
structure But (B n i : Nat) (M M' : Mi) : Prop where
  reads : ∀ d j, d < 2 → j < B → j ≠ i → M'.P.read d (j : Int) = M.P.read d (j : Int)
  full : ∀ d, d < 2 → (M.P.tab d).moved.length = n → (M'.P.tab d).moved.length = n
  alike : Alike M.P M'.P
theorem But.refl (B n i : Nat) (M : Mi) : But B n i M M := ⟨fun _ _ _ _ _ => rfl, fun _ _ h => h, Alike.refl _⟩
theorem But.trans {i : Nat} {M1 M2 : Mi} (h : But B n i M M1) (g : But B n i M1 M2) : But B n i M M2 :=
  ⟨fun d j hd hj hne => (g.reads d j hd hj hne).trans (h.reads d j hd hj hne), fun d hd hf => g.full d hd (h.full d hd hf), h.alike.trans g.alike⟩
/-- A repair: whether it was one, what reads then. -/
theorem Gm.repair (h : Gm B z n c M) {s i : Nat} (hs : s < 2) (hi : i < B) {x : ByteArray} (hx : x.size = z) :
    ∃ ok M', M.repair s i x = (ok, M') ∧ Gm B z n (c + 1) M' ∧ But B n i M M' ∧ Done n M' x i s ∧ M'.P.read (1 - s) (i : Int) = M.P.read (1 - s) (i : Int) ∧ M'.reps = M.reps + (if ok then 1 else 0) ∧ (ok = true ↔ M'.P.read s (i : Int) = (x, 0)) ∧ (ok = true → M.bl = [] → M'.bl = []) := by
  obtain ⟨k, M1, e, g, r, o, q, f, al, bl⟩ := h.put hs hi hx
  have hb : But B n i M M1 := ⟨fun d j hd hj hne => o d j hd hj (.inr hne), f, al⟩
  have ho := o (1 - s) i (by omega) hi (.inl (by omega))
  rw [h.repair_eq hs, e]
  simp only
  rcases q with ⟨rfl, hr⟩ | ⟨rfl, h7, h7', hf⟩
  · refine ⟨true, { M1 with reps := M1.reps + 1 }, rfl, g.same rfl rfl, ⟨hb.reads, hb.full, hb.alike⟩, .inl hr, ho, by simp [r], by simp [hr], fun _ hbl => bl rfl hbl⟩
  · refine ⟨false, M1, rfl, g, hb, .inr ⟨h7', hf⟩, ho, by simp [r], ⟨fun e => by simp at e, fun e => ?_⟩, fun e => by simp at e⟩
    rw [e] at h7'; cases h7'
/-- A repair where no sector is bad. -/
theorem Gm.repair_ok (h : Gm B z n c M) (hn : Sound M.P) {s i : Nat} (hs : s < 2) (hi : i < B) {x : ByteArray} (hx : x.size = z) :
    ∃ M', M.repair s i x = (true, M') ∧ Gm B z n (c + 1) M' ∧ Sound M'.P ∧ M'.P.read s (i : Int) = (x, 0) ∧ (∀ d j, d < 2 → j < B → (d ≠ s ∨ j ≠ i) → M'.P.read d (j : Int) = M.P.read d (j : Int)) ∧ M'.reps = M.reps + 1 ∧ M'.P.tab = M.P.tab ∧ (M.bl = [] → M'.bl = []) := by
  obtain ⟨M1, e, g, n1, r, t, x1, o, b⟩ := h.put_ok hn hs hi hx
  rw [h.repair_eq hs, e]
  exact ⟨{ M1 with reps := M1.reps + 1 }, rfl, g.same rfl rfl, n1, x1, o, by rw [← r], t, b⟩
theorem Mi.readV_at {q : PtrE} {i a g : Nat} {X t : ByteArray} {s : Nat} (hI : ImgOf X q z a g t) (hw : M.whole q i = (X, s, 0)) : M.readV q i = (4, t, 0) := by
  unfold Mi.readV
  rw [hw]
  simp only [ne_eq, not_true_eq_false, if_false]
  rw [hI.opens]
  simp only
  rw [bA_of]
/-- Read, where one copy is whole. -/
theorem Gm.readC (h : Gm B z n c M) {q : PtrE} {i a g : Nat} {X t : ByteArray} (hI : ImgOf X q z a g t) (hC : Cop M q X i) (hi : i < B) :
    M.readV q i = (4, t, 0) ∧ Gm B z n (c + 1) (M.readM q i) ∧ But B n i M (M.readM q i) ∧ Cop (M.readM q i) q X i ∧ (M.readM q i).reps ≤ M.reps + 1 ∧ ((∀ s, s < 2 → M.P.read s (i : Int) = (X, 0)) → M.readM q i = M) := by
  obtain ⟨s, hs, hw, hno, hr⟩ := hC.whole
  refine ⟨Mi.readV_at hI hw, ?_⟩
  unfold Mi.readM
  rw [hw]
  simp only
  rcases two_cases hs with rfl | rfl
  · rw [if_neg (by decide)]
    exact ⟨h.mono (by omega), But.refl _ _ _ _, hC, Nat.le_succ _, fun _ => rfl⟩
  · rw [if_pos rfl]
    obtain ⟨ok, M', e, g1, b1, d1, r1, p1, _, _⟩ := h.repair (s := 0) (by decide) hi (x := X) hI.size
    rw [e]
    have hr1 : M'.P.read 1 (i : Int) = (X, 0) := r1.trans hr
    refine ⟨g1, b1, ⟨fun k hk hh => ?_, ⟨1, by decide, hr1⟩, hC.meets⟩, ?_, fun hall => ?_⟩
    · rcases two_cases hk with rfl | rfl
      · rcases d1 with d1 | ⟨d1, _⟩
        · exact d1
        · have := (Mi.has_ok hh).1
          rw [d1] at this; cases this
      · exact hr1
    · simp only; rw [p1]; split <;> omega
    · have := hno 0 (by decide)
      rw [Mi.has_iff (hall 0 (by decide)), hI.meets] at this
      cases this
/-- Heal on one side. -/
theorem Gm.healS (h : Gm B z n c M) {s i : Nat} (hs : s < 2) (hi : i < B) {x : ByteArray} (hx : x.size = z) :
    ∃ k M', M.healS s i x = (k, M') ∧ k ≤ 1 ∧ Gm B z n (c + 1) M' ∧ But B n i M M' ∧ Done n M' x i s ∧ M'.P.read (1 - s) (i : Int) = M.P.read (1 - s) (i : Int) ∧ M'.reps = M.reps + k ∧ (M.P.read s (i : Int) = (x, 0) → k = 0 ∧ M' = M) ∧ (Done n M x i s → k = 0 ∧ M'.P = M.P) := by
  unfold Mi.healS
  by_cases hr : M.P.read s (i : Int) = (x, 0)
  · rw [if_pos hr]
    exact ⟨0, M, rfl, by omega, h.mono (by omega), But.refl _ _ _ _, .inl hr, rfl, rfl, fun _ => ⟨rfl, rfl⟩, fun _ => ⟨rfl, rfl⟩⟩
  · rw [if_neg hr]
    obtain ⟨ok, M', e, g1, b1, d1, r1, p1, q1, _⟩ := h.repair hs hi hx
    rw [e]
    refine ⟨if ok = true then 1 else 0, M', rfl, by split <;> omega, g1, b1, d1, r1, p1, fun e => absurd e hr, fun hd => ?_⟩
    rcases hd with hd | ⟨h7, hf⟩
    · exact absurd hd hr
    · obtain ⟨k9, hP⟩ := h.put_full hs hi hx h7 hf
      rw [h.repair_eq hs, k9] at e
      simp only at e
      injection e with e1 e2
      rw [← e1, ← e2]
      exact ⟨by decide, hP⟩
/-- Check, where one copy is whole. -/
theorem Gm.checkC (h : Gm B z n c M) {q : PtrE} {i : Nat} {X : ByteArray} (hx : X.size = z) (hC : Cop M q X i) (hi : i < B) :
    ∃ k M', M.check q i = ((k, 0), M') ∧ k ≤ 1 ∧ Gm B z n (c + 2) M' ∧ But B n i M M' ∧ (∀ s, s < 2 → Done n M' X i s) ∧ Cop M' q X i ∧ M'.reps = M.reps + k ∧ ((∀ s, s < 2 → M.P.read s (i : Int) = (X, 0)) → k = 0 ∧ M' = M) ∧ ((∀ s, s < 2 → Done n M X i s) → k = 0 ∧ M'.P = M.P) := by
  obtain ⟨s, hs, hw, hno, hr⟩ := hC.whole
  obtain ⟨k0, M1, e0, l0, g0, b0, d0, r0, p0, w0, f0⟩ := h.healS (s := 0) (by decide) hi hx
  obtain ⟨k1, M2, e1, l1, g1, b1, d1, r1, p1, w1, f1⟩ := g0.healS (s := 1) (by decide) hi hx
  have hck : M.check q i = ((k0 + k1, 0), M2) := by
    unfold Mi.check
    rw [hw]
    simp only [ne_eq, not_true_eq_false, if_false]
    unfold Mi.heal
    rw [e0]
    simp only
    rw [e1]
  have hD0 : Done n M2 X i 0 := by
    rcases d0 with d0 | ⟨d0, f0⟩
    · exact .inl (r1.trans d0)
    · exact .inr ⟨by rw [r1]; exact d0, b1.full 0 (by decide) f0⟩
  have hall : ∀ s, s < 2 → Done n M2 X i s := fun s hs => by rcases two_cases hs with rfl | rfl; exact hD0; exact d1
  have h1s : k0 + k1 ≤ 1 := by
    rcases two_cases hs with rfl | rfl
    · have := (w0 hr).1; omega
    · have := (w1 (r0.trans hr)).1; omega
  refine ⟨k0 + k1, M2, hck, h1s, g1, b0.trans b1, hall, ⟨fun k hk hh => ?_, ?_, hC.meets⟩, by rw [p1, p0]; omega, fun ha => ?_, fun ha => ?_⟩
  · rcases hall k hk with hd | ⟨hd, _⟩
    · exact hd
    · have := (Mi.has_ok hh).1
      rw [hd] at this; cases this
  · rcases two_cases hs with rfl | rfl
    · have := (w0 hr).2
      exact ⟨0, by decide, by rw [r1, this]; exact hr⟩
    · have := (w1 (r0.trans hr)).2
      exact ⟨1, by decide, by rw [this]; exact r0.trans hr⟩
  · obtain ⟨a1, a2⟩ := w0 (ha 0 (by decide))
    subst a1; subst a2
    obtain ⟨a3, a4⟩ := w1 (ha 1 (by decide))
    subst a3
    exact ⟨rfl, a4⟩
  · obtain ⟨a1, a2⟩ := f0 (ha 0 (by decide))
    have hd1 : Done n M1 X i 1 := by
      have := ha 1 (by decide)
      unfold Done at this ⊢
      rw [a2]; exact this
    obtain ⟨a3, a4⟩ := f1 hd1
    exact ⟨by omega, a4.trans a2⟩
end
end Go.Proofs.YtnpfhfgegjocoaaGreat
/- law08: fresh, sealed. -/
namespace Go.Proofs.YtnpfhfgegjocoaaGreat
open Go.RowKit

/-- A mirror over new devices, plainly. -/
structure Gfresh (B z n : Nat) (M : Mi) : Prop where
  gm : Gm B z n 0 M
  sound : Sound M.P
  tab : ∀ s, s < 2 → M.P.tab s = ⟨B, n, []⟩
  zero : ∀ s i, s < 2 → i < B → M.P.read s (i : Int) = (bA (zerosL z), 0)
  bl : M.bl = []
  reps : M.reps = 0
theorem newdev_bad (n s j : Nat) : (Dev.new n s).bad.getD j false = false := by
  show (List.replicate n false).getD j false = false
  rw [List.getD_eq_getElem?_getD, List.getElem?_replicate]
  split <;> rfl
theorem fresh_gm (B z n : Nat) (hr : Dev.right ((B + 4 + n : Nat) : Int) (z : Int) = true) (h1 : n ≤ 32) (h2 : 8 + 2 * n + 24 ≤ z) (h3 : 2 ≤ B) :
    (newP n (fun _ => Dev.new (B + 4 + n) z)).Fit ∧ ∃ P', ((newP n (fun _ => Dev.new (B + 4 + n) z)).keep 0 (tab0 (newP n (fun _ => Dev.new (B + 4 + n) z)))).1 = 0 ∧ (((newP n (fun _ => Dev.new (B + 4 + n) z)).keep 0 (tab0 (newP n (fun _ => Dev.new (B + 4 + n) z)))).2.keep 1 (tab0 (newP n (fun _ => Dev.new (B + 4 + n) z)))) = (0, P') ∧ Gfresh B z n ⟨P', [], 0⟩ := by
  have hfit : (newP n (fun _ => Dev.new (B + 4 + n) z)).Fit := ⟨hr, h1, h2, by show 6 + n ≤ B + 4 + n; omega⟩
  have hinv : PInv0 (newP n (fun _ => Dev.new (B + 4 + n) z)) := ⟨fun _ _ => new_quiet (B + 4 + n) z hr, fun _ _ => ⟨rfl, rfl⟩, hfit⟩
  obtain ⟨P', k1, k2, k3, k4, k5, k6⟩ := format_inv hinv (fun _ _ => new_empty (B + 4 + n) z (by omega))
  have ht : tab0 (newP n (fun _ => Dev.new (B + 4 + n) z)) = ⟨B, n, []⟩ := by
    show (⟨blocksN (B + 4 + n) z n, n, []⟩ : Tab) = ⟨B, n, []⟩
    unfold blocksN
    rw [if_pos (by omega), show B + 4 + n - 4 - n = B by omega]
  rw [ht] at k4
  have hbad : Sound P' := fun d hd j hj => by rw [(k5.same d hd).bad j hj]; exact newdev_bad _ _ _
  have hblk : ∀ s, s < 2 → (P'.tab s).blocks = B := fun s hs => by rw [k4 s hs]
  have hn5 : P'.n = n := k5.n
  have hz5 : (P'.dev 0).size = z := (k5.same 0 (by decide)).size
  have hcur : ∀ s i, s < 2 → i < B → (P'.dev s).cur (i + 4) = ⟨Array.replicate z 0⟩ := fun s i hs hi => by
    rw [(k5.same s hs).cur (i + 4) (by show i + 4 < B + 4 + n; omega) (by omega)]
    show (Dev.late [] (i + 4)).getD ((List.replicate (B + 4 + n) (⟨Array.replicate z 0⟩ : ByteArray)).getD (i + 4) ⟨#[]⟩) = _
    rw [Dev.late_nil, Option.getD_none, List.getD_eq_getElem?_getD, List.getElem?_replicate, if_pos (by omega)]
    rfl
  have hgm : Gm B z n 0 ⟨P', [], 0⟩ := by
    constructor
    · exact k3
    · exact hn5
    · exact hz5
    · exact hblk
    · intro d hd
      show (P'.dev d).cache.length ≤ 0
      rw [k6 d hd]; exact Nat.le_refl _
    · intro hb; exact absurd rfl hb
  clear k5
  refine ⟨hfit, P', k1, k2, ?_⟩
  clear k1 k2 hinv hfit ht
  refine ⟨hgm, hbad, k4, fun s i hs hi => ?_, rfl, rfl⟩
  have hib : i < (P'.tab s).blocks := by rw [hblk s hs]; exact hi
  have hat : ((P'.tab s).at_ (i : Int)).1 = i := by
    rw [k4 s hs, Tab.at_in (by exact hi)]
    rfl
  show P'.read s (i : Int) = _
  rw [read_in hib, hat]
  have hq := (k3.inv.dev s hs).q
  have hlt : i + 4 < (P'.dev s).sectors := by have := k3.at_lt hs hib; rw [hat] at this; exact this
  unfold Dev.read
  rw [if_neg (by rw [hq.ready]; simp), if_neg (by rw [Dev.isS_of hlt]; simp), Int.toNat_natCast, hbad s hs (i + 4) (by omega)]
  simp only [Bool.false_eq_true, if_false]
  congr 1
  rw [hcur s i hs hi]
  unfold bA zerosL
  rw [List.toArray_replicate]
theorem results_ctt8 {fn : Func} {p u x : Tmp} {ty : TypeId} (h : fn.results = #[.cell p ty, .tmp u, .tmp x]) {tmps : Array Value} {P : Program} {w : World} {ad : Addr} {v : Value} (hp : tmps.getD p undef = .pointer (some ad)) (hl : (loadVar ty ad).run P w = .ok v w) :
    (results fn tmps).run P w = .ok (.tuple #[v, tmps.getD u undef, tmps.getD x undef]) w := by
  have e : (results fn tmps).run P w = ((asAddr (tmps.getD p undef)).run P w).andThen fun ad w1 => ((loadVar ty ad).run P w1).andThen fun v w2 => .ok (.tuple #[v, tmps.getD u undef, tmps.getD x undef]) w2 := by
    simp only [results, h]
    simp [Sem.run_bind, Result.andThen]
  rw [e, hp]
  simp only [asAddr, Sem.run_pure, Result.andThen_ok, hl]
theorem results_tc8 {fn : Func} {p u : Tmp} {ty : TypeId} (h : fn.results = #[.tmp u, .cell p ty]) {tmps : Array Value} {P : Program} {w : World} {ad : Addr} {v : Value} (hp : tmps.getD p undef = .pointer (some ad)) (hl : (loadVar ty ad).run P w = .ok v w) :
    (results fn tmps).run P w = .ok (.tuple #[tmps.getD u undef, v]) w := by
  have e : (results fn tmps).run P w = ((asAddr (tmps.getD p undef)).run P w).andThen fun ad w1 => ((loadVar ty ad).run P w1).andThen fun v w2 => .ok (.tuple #[tmps.getD u undef, v]) w2 := by
    simp only [results, h]
    simp [Sem.run_bind, Result.andThen]
  rw [e, hp]
  simp only [asAddr, Sem.run_pure, Result.andThen_ok, hl]
theorem load_devs8 {w : World} {b : Nat} {a0 a1 : Value} (h : Blk w b 50 [a0, a1]) : (loadVar 50 ⟨b, 0, none⟩).run Tryz.prog w = .ok (.agg #[a0, a1]) w := by
  have c0 := h.cell (i := 0) (v := a0) rfl
  have c1 := h.cell (i := 1) (v := a1) rfl
  go_simp
theorem q8Fresh {W : World} :
    Calls Tryz.prog 25 #[] W fun e w' => ∃ x p b M, e = .returned (.tuple #[.agg #[.pointer (some ⟨x 0, 0, none⟩), .pointer (some ⟨x 1, 0, none⟩)], .pointer (some ⟨b, 0, none⟩), .bool true]) ∧ Hid (OwnM W [] w' b p x M) ∧ Hid (Gfresh 14 128 6 M) := by
  obtain ⟨hfit, P', k1, k2, k3⟩ := fresh_gm 14 128 6 (by decide) (by decide) (by decide) (by decide)
  have cN := Lib.hid (fun W => dNew_any (W := W) 24 128 (by decide))
  have cF := Lib.hid (fun (w : World) (x : Nat → Nat) (fx : Nat → List Nat) (h : Devs w x fx (fun _ => Dev.new 24 128)) => rFormat_any h 6 hfit (fun _ _ => by show (0 : Nat) + 2 < 1000000; omega) k1 (by rw [k2]))
  rw [k2] at cF
  have HK := Lib.hid k3
  clear k1 k2 k3 hfit
  obtain ⟨w0, hw0⟩ : ∃ w0, W.alloc (.cells #[.pointer none, .pointer none] 50) = w0 := ⟨_, rfl⟩
  have hb : Blk w0 W.heap.size 50 [.pointer none, .pointer none] := by rw [← hw0]; exact Blk.new W 50 _
  have hm0 : Mods [] W w0 := by rw [← hw0]; exact (Mods.refl _ _).alloc _
  have HB0 := Lib.hid (And.intro hb hm0)
  clear hb hm0
  go_enter Tryz.func25, Tryz.ntmps25
  go_upto_region 5 with (first | (go_at_call 80; have H2 := H0; refine (cN.out _).mono ?_; rintro e w2 ⟨b1, f1, rfl, H1, HM1, HF1⟩; have HD := Lib.hid (devs_two (H0.out.keep HM1.out (by simp)) H1.out H0.out.lt HF1.out)) | (go_at_call 80; refine (cN.out _).mono ?_; rintro e w1 ⟨b0, f0, rfl, H0, HM0, HF0⟩) | (go_at_call 64; refine (cF.out _ (two b0 b1) (two f0 f1) HD.out).mono ?_; rintro e w3 ⟨p, gp, fx, rfl, HP, HM2, HN2, HG2⟩) | (go_at_call 46; refine (mNew_any _).mono ?_; rintro e w4 ⟨b, tb, mb, rfl, HMi, HTb, HMap, HM4, HL4⟩))
  have hlt := HB0.out.1.lt
  have hk : Blk w4 W.heap.size 50 [.pointer none, .pointer none] := by
    have h1 := (HB0.out.1.keep HM0.out (by simp)).keep HM1.out (by simp)
    have h2 := h1.keep HM2.out (fun hx => by
      have hs := HM0.out.size
      rcases List.mem_append.1 hx with hx | hx
      · have := HF0.out _ hx; omega
      · have := HF1.out _ hx; omega)
    exact h2.keep HM4.out (by simp)
  have q0 := hk.cell (i := 0) rfl
  have q1 := hk.cell (i := 1) rfl
  have z0 := hk.free 0
  have z1 := hk.free 1
  go_wp2_with fail
  refine bodyPost_ret (results_ctt8 rfl rfl (load_devs8 ((hk.set 0 (.pointer (some ⟨b0, 0, none⟩))).set 1 (.pointer (some ⟨b1, 0, none⟩))))) rfl ?_
  have s1 := HM0.out.size
  have s2 := HM1.out.size
  have s3 := HM2.out.size
  have s4 := HM4.out.size
  obtain ⟨l1, l2, l3⟩ := HL4.out
  have hm45 : Mods [W.heap.size] w4 ((w4.setCell ⟨W.heap.size, 0, none⟩ (.pointer (some ⟨b0, 0, none⟩))).setCell ⟨W.heap.size, 1, none⟩ (.pointer (some ⟨b1, 0, none⟩))) := ((Mods.refl _ w4).setCell (.inl (by simp)) _).setCell (.inl (by simp)) _
  have hmA : Mods [] W w4 := (((HB0.out.2.trans HM0.out (by simp)).trans HM1.out (by simp)).trans HM2.out (fun k hk => .inr (by
    rcases List.mem_append.1 hk with hk | hk
    · have := HF0.out _ hk; omega
    · have := HF1.out _ hk; omega))).trans HM4.out (by simp)
  have hfx : ∀ k, k < 2 → ∀ g ∈ fx k, w0.heap.size ≤ g := fun k hk g hg => by
    rcases HN2.out k hk g hg with h | h
    · rcases two_cases hk with rfl | rfl
      · exact HF0.out g h
      · have := HF1.out g h; omega
    · omega
  have hgp : ∀ g ∈ gp, w0.heap.size ≤ g := fun g hg => by have := HG2.out g hg; omega
  have hp3 := HP.out
  have hgl : ∀ g ∈ gp, g < w3.heap.size := fun g hg => hp3.pb.lt _ hg
  have hfl : ∀ k, k < 2 → ∀ g ∈ fx k, g < w3.heap.size := fun k hk g hg => (hp3.dev k hk).lt _ hg
  have hbl : mb < b := l3
  refine ⟨two b0 b1, p, b, ⟨P', [], 0⟩, rfl, Lib.hid ⟨⟨tb, mb, gp, fx, ⟨?_, ?_, ?_, List.nodup_nil, ?_, fun g hg => ?_, fun k hk g hg => ?_⟩, fun g hg => ⟨?_, by simp⟩⟩, hmA.trans hm45 (fun k hk => .inr (by have := List.mem_singleton.1 hk; omega)), by simp⟩, HK⟩
  · exact Blk.keep HMi.out hm45 (fun hx => by have := List.mem_singleton.1 hx; omega)
  · exact HTb.out.keep hm45 (fun hx => by have := List.mem_singleton.1 hx; omega)
  · rw [badF_nil]
    exact HMap.out.keep hm45 (fun hx => by have := List.mem_singleton.1 hx; omega)
  · exact (HP.out.keep0 HM4.out).keep hm45 (fun g hg hx => by have := hgp g hg; have := List.mem_singleton.1 hx; omega) (fun k hk g hg hx => by have := hfx k hk g hg; have := List.mem_singleton.1 hx; omega)
  · have := hgl g hg; exact ⟨by omega, by omega, by omega⟩
  · have := hfl k hk g hg; exact ⟨by omega, by omega, by omega⟩
  · rcases hg with rfl | rfl | rfl | hg | hg | hg
    · omega
    · omega
    · omega
    · have := hgp g hg; omega
    · have := hfx 0 (by decide) g hg; omega
    · have := hfx 1 (by decide) g hg; omega
set_option maxHeartbeats 1600000 in
/-- sealed: an image, and what is known of it. -/
theorem q8Sealed {W : World} {tb : Nat} (hT : Blk W tb 172 sumRow) (a g : Nat) (ha : a ≤ 2147483647) (hg : g < 18446744073709551616) (s : ByteArray) (hs : s.size ≤ 104) :
    Calls Tryz.prog 28 #[.pointer (some ⟨tb, 0, none⟩), .int .i64 (a : Nat), .int .u64 (g : Nat), .string s] W fun e w' => e = .returned (.tuple #[.string (bA (sealL 128 ⟨4, (a : Int), g⟩ s.toList)), ptrV (ptrOf 128 ⟨4, (a : Int), g⟩ s.toList)]) ∧ Hid (Mods [] W w') := by
  have hr : EHead.right ⟨4, (a : Int), g⟩ = true := by unfold EHead.right placedE; simp; omega
  have cS := Lib.hid (fun (w : World) (hm : Mods [] W w) => eSeal_ptr (hT.keep hm (by simp)) 128 ⟨4, (a : Int), g⟩ s (by decide) (by decide) hr hg (by omega))
  unfold headV at cS
  unfold ptrV ptrOf
  simp only at cS ⊢
  generalize bA (sealL 128 ⟨4, (a : Int), g⟩ s.toList) = I at *
  generalize crcOn 0 (bareL 128 ⟨4, (a : Int), g⟩ s.toList) = k at *
  obtain ⟨w0, hw0⟩ : ∃ w0, W.alloc (.cells #[.int .i64 0, .int .u64 0, .int .u32 0] 58) = w0 := ⟨_, rfl⟩
  have hb : Blk w0 W.heap.size 58 [.int .i64 0, .int .u64 0, .int .u32 0] := by rw [← hw0]; exact Blk.new W 58 _
  have hm0 : Mods [] W w0 := by rw [← hw0]; exact (Mods.refl _ _).alloc _
  have HB0 := Lib.hid (And.intro hb hm0)
  clear hb hm0 hr hT
  go_enter Tryz.func28, Tryz.ntmps28
  go_wp2_with (go_at_call 81; refine (cS.out _ HB0.out.2).mono ?_; rintro e w1 ⟨rfl, hm1⟩; have HM1 := Lib.hid hm1; have hb1 := Blk.new w1 58 [.int .i64 (a : Nat), .int .u64 (g : Nat), .int .u32 (k : Nat)]; have hb0 := (HB0.out.1.keep hm1 (by simp)).alloc (.cells #[.int .i64 (a : Nat), .int .u64 (g : Nat), .int .u32 (k : Nat)] 58))
  obtain ⟨w2, hw2⟩ : ∃ w2, w1.alloc (.cells #[.int .i64 (a : Nat), .int .u64 (g : Nat), .int .u32 (k : Nat)] 58) = w2 := ⟨_, rfl⟩
  have hm2 : Mods [] w1 w2 := by rw [← hw2]; exact (Mods.refl _ _).alloc _
  rw [show ([Value.int .i64 (a : Nat), .int .u64 (g : Nat), .int .u32 (k : Nat)] : List Value).toArray = #[.int .i64 (a : Nat), .int .u64 (g : Nat), .int .u32 (k : Nat)] from rfl, hw2] at hb1
  rw [hw2] at hb0
  simp only [hw2]
  have p0 := hb1.cell (i := 0) rfl
  have p1 := hb1.cell (i := 1) rfl
  have p2 := hb1.cell (i := 2) rfl
  have r0 := hb0.cell (i := 0) rfl
  have r1 := hb0.cell (i := 1) rfl
  have r2 := hb0.cell (i := 2) rfl
  have f0 := hb0.free 0
  have f1 := hb0.free 1
  have f2 := hb0.free 2
  have HBW := Lib.hid hb0
  clear hb0 hb1
  go_region
  all_goals go_wp2_with fail
  all_goals
    obtain ⟨k1, k2⟩ := three_sets (w := w2.drew) (HBW.out.drewN 1) (.int .i64 (a : Nat)) (.int .u64 (g : Nat)) (.int .u32 (k : Nat))
    refine bodyPost_ret (results_tc8 rfl rfl (load_ptr k1)) rfl ?_
    exact ⟨rfl, Lib.hid ((((HB0.out.2.trans HM1.out (by simp)).trans hm2 (by simp)).drew).trans k2 (fun q hq => .inr (by rw [List.mem_singleton.1 hq]; exact Nat.le_refl _)))⟩
end Go.Proofs.YtnpfhfgegjocoaaGreat
/- law08: wakes. -/
namespace Go.Proofs.YtnpfhfgegjocoaaGreat
open Go.RowKit

/-- sealed, by what the image is. -/
theorem q8SealedI {W : World} {tb : Nat} (hT : Blk W tb 172 sumRow) (a g : Nat) (ha : a ≤ 2147483647) (hg : g < 18446744073709551616) (s : ByteArray) (hs : s.size ≤ 104) :
    Calls Tryz.prog 28 #[.pointer (some ⟨tb, 0, none⟩), .int .i64 (a : Nat), .int .u64 (g : Nat), .string s] W fun e w' => ∃ X qa qg qs, e = .returned (.tuple #[.string X, .agg #[.int .i64 qa, .int .u64 (qg : Nat), .int .u32 (qs : Nat)]]) ∧ Hid (ImgOf X ⟨qa, qg, qs⟩ 128 a g s) ∧ Hid (Mods [] W w') :=
  (q8Sealed hT a g ha hg s hs).mono fun e w' ⟨h1, h2⟩ => ⟨_, _, _, _, h1, Lib.hid (imgOf (by decide) (by decide) ha hg s (by omega)), h2⟩
/-- What reads behind one copy is garbled. -/
theorem read_garbled {M : Mi} {q : PtrE} {X t : ByteArray} {i a g k c n B : Nat} {y : UInt8} (h : Gm B 128 n c M) (hn : Sound M.P) (hi : i < B) (hI : ImgOf X q 128 a g t) (hk : k < 128) (hy : y ≠ 0) (h0 : M.P.read 0 (i : Int) = (turnB X k y, 0)) (h1 : M.P.read 1 (i : Int) = (X, 0)) :
    M.readV q i = (4, t, 0) ∧ (M.readM q i).reps = M.reps + 1 ∧ Gm B 128 n (c + 1) (M.readM q i) := by
  have hh0 : M.has q 0 i = false := by
    rw [Mi.has_iff h0]
    cases hm : meetsL q (turnB X k y).toList with
    | false => rfl
    | true => exact absurd (turnB_meets hI.meets hm) (turnB_ne (by rw [hI.size]; exact hk) hy)
  have hw : M.whole q i = (X, 1, 0) := by
    rw [Mi.whole_at (s := 1) (by decide) (fun k hk => by rw [show k = 0 by omega]; exact hh0) (by rw [Mi.has_iff h1]; exact hI.meets), h1]
  obtain ⟨M', e, g1, _, _, _, r, _⟩ := h.repair_ok hn (s := 0) (by decide) hi (x := X) hI.size
  refine ⟨Mi.readV_at hI hw, ?_⟩
  unfold Mi.readM
  rw [hw]
  simp only
  rw [if_pos trivial, e]
  exact ⟨r, g1⟩
set_option maxRecDepth 100000 in
set_option maxHeartbeats 3200000 in
theorem q8Wakes {W : World} : Calls Tryz.prog 26 #[] W fun e w' => e = .returned (.bool true) ∧ Hid (Mods [] W w') := by
  go_enter Tryz.func26, Tryz.ntmps26
  go_wp2_with fail
  refine q8Fresh.mono ?_
  rintro e w1 ⟨x, p, b, M, rfl, HO, HG⟩
  go_wp2_with fail
  obtain ⟨w2, hw2⟩ : ∃ w2, w1.alloc (.cells #[.pointer (some ⟨x 0, 0, none⟩), .pointer (some ⟨x 1, 0, none⟩)] 50) = w2 := ⟨_, rfl⟩
  obtain ⟨db, hdb⟩ : ∃ db, w1.heap.size = db := ⟨_, rfl⟩
  have hb2 : Blk w2 db 50 [.pointer (some ⟨x 0, 0, none⟩), .pointer (some ⟨x 1, 0, none⟩)] := by rw [← hw2, ← hdb]; exact Blk.new w1 50 _
  have hm2 : Mods [] w1 w2 := by rw [← hw2]; exact (Mods.refl _ _).alloc _
  have HO2 : Hid (OwnM W [db] w2 b p x M) := Lib.hid (HO.out.protect hm2 (fun g hg => .inr (by have := hb2.lt; have := List.mem_singleton.1 hg; omega)))
  rw [hw2, hdb]
  have HB2 := Lib.hid hb2
  clear hw2 hdb hb2 hm2 HO
  refine (sumMake_any _).mono ?_
  rintro e w3 ⟨tb, rfl, hT, hm3, _⟩
  have HT := Lib.hid hT
  have HM3 := Lib.hid hm3
  clear hT hm3
  go_wp2_with fail
  refine (q8SealedI HT.out 3 1 (by decide) (by decide) ⟨#[97, 98, 99]⟩ (by decide)).mono ?_
  rintro e w4 ⟨X, qa, qg, qs, rfl, HI, HM4⟩
  have HO4 : Hid (OwnM W [db] w4 b p x M) := Lib.hid ((HO2.out.still HM3.out).still HM4.out)
  have HB4 := Lib.hid ((HB2.out.keep HM3.out (by simp)).keep HM4.out (by simp))
  go_wp2_with fail
  obtain ⟨w5, hw5⟩ : ∃ w5, w4.alloc (.cells #[.int .i64 qa, .int .u64 (qg : Nat), .int .u32 (qs : Nat)] 58) = w5 := ⟨_, rfl⟩
  obtain ⟨pb, hpb⟩ : ∃ pb, w4.heap.size = pb := ⟨_, rfl⟩
  have hb5 : Blk w5 pb 58 [.int .i64 qa, .int .u64 (qg : Nat), .int .u32 (qs : Nat)] := by rw [← hw5, ← hpb]; exact Blk.new w4 58 _
  have hm5 : Mods [] w4 w5 := by rw [← hw5]; exact (Mods.refl _ _).alloc _
  have HO5 : Hid (OwnM W [db, pb] w5 b p x M) := Lib.hid (HO4.out.protect hm5 (fun g hg => by
    rcases List.mem_cons.1 hg with rfl | hg
    · exact .inl (by simp)
    · exact .inr (by have := hb5.lt; have := List.mem_singleton.1 hg; omega)))
  have HBB : Hid (Blk w5 db 50 [.pointer (some ⟨x 0, 0, none⟩), .pointer (some ⟨x 1, 0, none⟩)] ∧ Blk w5 pb 58 [.int .i64 qa, .int .u64 (qg : Nat), .int .u32 (qs : Nat)]) := Lib.hid ⟨HB4.out.keep hm5 (by simp), hb5⟩
  rw [hw5, hpb]
  clear hw5 hpb hb5 hm5 HO4 HB4 HO2 HB2 HT HM3 HM4
  -- plainly
  have g0 := HG.out
  obtain ⟨M1, e1, g1, n1, r1, t1, x1, _, _⟩ := g0.gm.write_ok g0.sound (i := 3) (by decide) HI.out.size
  obtain ⟨M2, e2, g2, a2, r2, _, t2, o2, _⟩ := g1.flush
  have hst : Still 14 6 M2.P := fun s hs => by rw [t2, t1]; exact g0.tab s hs
  obtain ⟨g3, s3, n3, o3, y3⟩ := g2.garble hst (s := 0) (i := 3) (by decide) (by decide) 30 1
  have hx0 := y3 X ((o2 0 3 (by decide) (by decide)).trans (x1 0 (by decide)))
  have hx1 := (o3 1 3 (by decide) (by decide) (.inl (by decide))).trans ((o2 1 3 (by decide) (by decide)).trans (x1 1 (by decide)))
  obtain ⟨rv, rr, _⟩ := read_garbled g3 (n3 (n1.alike a2)) (by decide) HI.out (by decide) (by decide) hx0 hx1
  have hsec : 7 < (M2.P.dev 0).sectors := g2.sec hst (i := 3) (by decide) (by decide)
  have HF := Lib.hid (And.intro g0.gm.fine (And.intro g1.fine (And.intro g2.fine g3.fine)))
  have hreps : (Mi.readM { M2 with P := M2.P.setDev 0 ((M2.P.dev 0).garble (3 + 4) 30 1) } ⟨qa, qg, qs⟩ 3).reps = 1 := by rw [rr]; show M2.reps + 1 = 1; rw [r2, r1, g0.reps]
  have hr3 : ({ M2 with P := M2.P.setDev 0 ((M2.P.dev 0).garble (3 + 4) 30 1) } : Mi).reps < 900000000 := by show M2.reps < _; rw [r2, r1, g0.reps]; decide
  have HQ := Lib.hid (And.intro hsec (And.intro hr3 HI.out.addr))
  have cW := Lib.hid (show Calls Tryz.prog 29 #[.pointer (some ⟨b, 0, none⟩), .int .i64 3, .string X] w5 _ from oWrite HO5.out HF.out.1 (by decide) (i := 3) (by decide) HI.out.size)
  rw [e1] at cW
  have cF := Lib.hid (fun (w : World) (h : OwnM W [db, pb] w b p x M1) => oFlush h HF.out.2.1 (by decide))
  rw [e2] at cF
  have cG := Lib.hid (fun (w : World) (h : OwnM W [db, pb] w b p x M2) => show Calls Tryz.prog 33 #[.pointer (some ⟨x 0, 0, none⟩), .int .i64 7, .int .i64 30, .int .u8 1] w _ from oGarble h HF.out.2.2.1 (by decide) (s := 0) (by decide) (k := 7) HQ.out.1 30 1)
  have cR := Lib.hid (fun (w : World) (h : OwnM W [db, pb] w b p x { M2 with P := M2.P.setDev 0 ((M2.P.dev 0).garble (3 + 4) 30 1) }) => oRead h HF.out.2.2.2 (by decide) HQ.out.2.1 ⟨qa, qg, qs⟩ (i := 3) (by decide) HQ.out.2.2)
  rw [rv] at cR
  unfold ptrV at cR
  simp only at cW cF cG cR
  generalize (Mi.readM { M2 with P := M2.P.setDev 0 ((M2.P.dev 0).garble (3 + 4) 30 1) } ⟨qa, qg, qs⟩ 3) = M4 at *
  have cP := Lib.hid (fun (w : World) (h : OwnM W [db, pb] w b p x M4) => oRepairs h)
  rw [hreps] at cP
  clear g0 e1 g1 n1 r1 t1 x1 e2 g2 a2 r2 t2 o2 hst g3 s3 n3 o3 y3 hx0 hx1 rv rr hsec hreps hr3
  go_wp2_with fail
  refine cW.out.mono ?_
  rintro e w6 ⟨rfl, HO6, HK6⟩
  go_wp2_with fail
  refine (cF.out _ HO6.out).mono ?_
  rintro e w7 ⟨rfl, HO7, HK7⟩
  have hk7 := HK6.out.trans HK7.out
  have hb7 := hk7.blk HBB.out.1 (by simp)
  have z0 := hb7.cell (i := 0) rfl
  have HK := Lib.hid hk7
  clear hk7 hb7
  go_wp2_with fail
  refine (cG.out _ HO7.out).mono ?_
  rintro e w8 ⟨rfl, HO8, HK8⟩
  have hb8 := (HK.out.trans HK8.out).blk HBB.out.2 (by simp)
  have z1 := hb8.cell (i := 0) rfl
  have z2 := hb8.cell (i := 1) rfl
  have z3 := hb8.cell (i := 2) rfl
  clear hb8
  go_wp2_with fail
  refine (cR.out _ HO8.out).mono ?_
  rintro e w9 ⟨rfl, HO9, HK9⟩
  go_wp2_with (go_at_call 38; refine (cP.out _ HO9.out).mono ?_; rintro e w' ⟨rfl, rfl⟩)
  go_ret
  exact ⟨rfl, Lib.hid HO9.out.mods⟩
end Go.Proofs.YtnpfhfgegjocoaaGreat
namespace Go.Proofs.YtnpfhfgegjocoaaGreat
open Go.RowKit

/-! nil ones -/
theorem mNew_nil {W : World} : Calls Tryz.prog 46 #[.pointer none] W fun e w' => e = .returned (.tuple #[.pointer none, .int .i64 1]) ∧ W = w' := by
  go_enter Tryz.func46, Tryz.ntmps46
  go_wp2_with fail
  go_ret2
  exact ⟨rfl, rfl⟩
theorem mSized_nil {W : World} (i : Int) (x : ByteArray) : Calls Tryz.prog 82 #[.pointer none, .int .i64 i, .string x] W fun e w' => e = .returned (.int .i64 1) ∧ W = w' := by
  go_enter Tryz.func82, Tryz.ntmps82
  go_wp2_with (go_at_call 89; refine (mCheck_nil _).mono ?_; rintro e w' ⟨rfl, rfl⟩)
  go_ret
  exact ⟨rfl, rfl⟩
theorem mWrite_nil {W : World} (i : Int) (x : ByteArray) : Calls Tryz.prog 29 #[.pointer none, .int .i64 i, .string x] W fun e w' => e = .returned (.int .i64 1) ∧ W = w' := by
  go_enter Tryz.func29, Tryz.ntmps29
  go_wp2_with (go_at_call 82; refine (mSized_nil _ _).mono ?_; rintro e w' ⟨rfl, rfl⟩)
  go_ret
  exact ⟨rfl, rfl⟩
theorem mImages_nil {W : World} (i : Int) : Calls Tryz.prog 35 #[.pointer none, .int .i64 i] W fun e w' => e = .returned (.tuple #[.slice none 0 0, .int .i64 1]) ∧ W = w' := by
  go_enter Tryz.func35, Tryz.ntmps35
  go_wp2_with (go_at_call 89; refine (mCheck_nil _).mono ?_; rintro e w' ⟨rfl, rfl⟩)
  go_ret2
  exact ⟨rfl, rfl⟩
theorem mHeal_nil {W : World} (i : Int) (x : ByteArray) : Calls Tryz.prog 45 #[.pointer none, .int .i64 i, .string x] W fun e w' => e = .returned (.tuple #[.int .i64 0, .int .i64 1]) ∧ W = w' := by
  go_enter Tryz.func45, Tryz.ntmps45
  go_wp2_with (go_at_call 82; refine (mSized_nil _ _).mono ?_; rintro e w' ⟨rfl, rfl⟩)
  go_ret2
  exact ⟨rfl, rfl⟩
theorem mRead_nil {W : World} (q : PtrE) : Calls Tryz.prog 34 #[.pointer none, ptrV q] W fun e w' => e = .returned (.tuple #[.int .u8 0, .string ⟨#[]⟩, .int .i64 1]) ∧ Hid (Mods [] W w') := by
  obtain ⟨w1, hw1⟩ : ∃ w1, W.alloc (.cells #[.int .i64 q.addr, .int .u64 (q.gen : Nat), .int .u32 (q.sum : Nat)] 58) = w1 := ⟨_, rfl⟩
  have hb : Blk w1 W.heap.size 58 [.int .i64 q.addr, .int .u64 (q.gen : Nat), .int .u32 (q.sum : Nat)] := by rw [← hw1]; exact Blk.new W 58 _
  have hm : Mods [] W w1 := by rw [← hw1]; exact (Mods.refl _ _).alloc _
  have y0 := hb.cell (i := 0) rfl
  unfold ptrV
  generalize q.addr = a at *
  go_enter Tryz.func34, Tryz.ntmps34
  go_wp2_with (go_at_call 89; refine (mCheck_nil _).mono ?_; rintro e w' ⟨rfl, rfl⟩)
  go_ret3
  exact ⟨rfl, Lib.hid hm⟩
theorem mChk_nil {W : World} (q : PtrE) : Calls Tryz.prog 39 #[.pointer none, ptrV q] W fun e w' => e = .returned (.tuple #[.int .i64 0, .int .i64 1]) ∧ Hid (Mods [] W w') := by
  obtain ⟨w1, hw1⟩ : ∃ w1, W.alloc (.cells #[.int .i64 q.addr, .int .u64 (q.gen : Nat), .int .u32 (q.sum : Nat)] 58) = w1 := ⟨_, rfl⟩
  have hb : Blk w1 W.heap.size 58 [.int .i64 q.addr, .int .u64 (q.gen : Nat), .int .u32 (q.sum : Nat)] := by rw [← hw1]; exact Blk.new W 58 _
  have hm : Mods [] W w1 := by rw [← hw1]; exact (Mods.refl _ _).alloc _
  have y0 := hb.cell (i := 0) rfl
  unfold ptrV
  generalize q.addr = a at *
  go_enter Tryz.func39, Tryz.ntmps39
  go_wp2_with (go_at_call 89; refine (mCheck_nil _).mono ?_; rintro e w' ⟨rfl, rfl⟩)
  go_ret2
  exact ⟨rfl, Lib.hid hm⟩
/-! plainly -/
section
variable {B z n c : Nat} {M : Mi}
theorem Gm.read_sound (h : Gm B z n c M) (hn : Sound M.P) {s i : Nat} (hs : s < 2) (hi : i < B) : (M.P.read s (i : Int)).2 = 0 :=
  read_ok h.pi hs (by rw [h.blocks s hs]; exact hi) (hn s hs _ (by omega))
theorem Done.sound (h : Gm B z n c M) (hn : Sound M.P) {X : ByteArray} {s i : Nat} (hs : s < 2) (hi : i < B) (hd : Done n M X i s) : M.P.read s (i : Int) = (X, 0) := by
  rcases hd with hd | ⟨hd, _⟩
  · exact hd
  · rw [h.read_sound hn hs hi] at hd; cases hd
theorem Gm.heal_ok (h : Gm B z n c M) (hn : Sound M.P) {i : Nat} (hi : i < B) {x : ByteArray} (hx : x.size = z) :
    ∃ k M', M.heal i x = (k, M') ∧ Gm B z n (c + 2) M' ∧ Sound M'.P ∧ But B n i M M' ∧ (∀ s, s < 2 → M'.P.read s (i : Int) = (x, 0)) ∧ M'.reps = M.reps + k ∧ k ≤ 2 := by
  obtain ⟨k0, M1, e0, l0, g0, b0, d0, r0, p0, _, _⟩ := h.healS (s := 0) (by decide) hi hx
  obtain ⟨k1, M2, e1, l1, g1, b1, d1, r1, p1, _, _⟩ := g0.healS (s := 1) (by decide) hi hx
  have n1 := hn.alike b0.alike
  have n2 := n1.alike b1.alike
  refine ⟨k0 + k1, M2, ?_, g1, n2, b0.trans b1, fun s hs => ?_, by rw [p1, p0]; omega, by omega⟩
  · unfold Mi.heal
    simp only
    rw [e0]
    simp only
    rw [e1]
  · rcases two_cases hs with rfl | rfl
    · exact r1.trans (d0.sound g0 n1 (by decide) hi)
    · exact d1.sound g1 n2 (by decide) hi
/-- Nothing is whole where no image opens. -/
theorem Mi.whole_none {i : Nat} {q : PtrE} (h : ∀ s, s < 2 → openL (M.P.read s (i : Int)).1.toList = .none) : M.whole q i = (⟨#[]⟩, 0, M.none 10) :=
  Mi.whole_no (fun k hk => by
    cases hh : M.has q k i with
    | false => rfl
    | true =>
      obtain ⟨e, l, ho, _⟩ := meets_open (Mi.has_ok hh).2
      rw [h k hk] at ho; cases ho)
theorem Gm.none_read (h : Gm B z n c M) {i : Nat} {q : PtrE} (hN : ∀ s, s < 2 → openL (M.P.read s (i : Int)).1.toList = .none) : M.readV q i = (0, ⟨#[]⟩, 10) ∧ M.readM q i = M ∧ M.check q i = ((0, 10), M) := by
  have hw := Mi.whole_none (M := M) (q := q) hN
  rw [h.none] at hw
  refine ⟨?_, ?_, ?_⟩
  · unfold Mi.readV; rw [hw]; simp
  · unfold Mi.readM; rw [hw]; simp
  · unfold Mi.check; rw [hw]; simp
end
theorem open_no_magic {l : List UInt8} (h : l.take 4 ≠ magicL) : openL l = none := by
  unfold openL
  rw [if_neg]
  rintro ⟨h1, _⟩
  unfold partsL at h1
  simp only [Bool.and_eq_true, decide_eq_true_eq] at h1
  exact h h1.1.1
theorem repeat_i (k : Nat) (hk : k ≤ 1000) (W : World) : Calls Tryz.prog 44 #[.string ⟨#[105]⟩, .int .i64 (k : Nat)] W fun e w' => ∃ z, e = .returned (.string z) ∧ z.size = k ∧ Hid (z = bA (List.replicate k 105)) ∧ Hid (Mods [] W w') :=
  (Tryz.strings_Repeat ⟨#[105]⟩ k W (by omega) (by show 1 * k ≤ _; omega)).mono fun e w' h => ⟨bA (List.replicate k 105), by rw [h.1]; show Ending.returned (.string ⟨(Lib.repeatL [105] k).toArray⟩) = _; rw [repC]; rfl, by rw [bA_size]; simp, Lib.hid rfl, Lib.hid (Mods.of_below h.2 [])⟩
end Go.Proofs.YtnpfhfgegjocoaaGreat
