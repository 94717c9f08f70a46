/- WalPlays: the state after each kind of act. -/
import Derived.Test.YtnpfhfgegjocoaaGreatMWb
import Derived.Deep.QuietTactic
import Derived.Test.YtnpfhfgegjocoaaGreatMG
import Derived.OpenShut
import Derived.ArgAppend
/- WalPlays: the document's check of updates, and their text. -/
namespace Go.Proofs.YtnpfhfgegjocoaaGreat
open Go.RowKit

theorem nil_size (s : ByteArray) : s.toList.isEmpty = decide (s.size = 0) := by
  have h : s.toList.length = s.size := by rw [Lib.toList_data]; exact Array.length_toList
  rw [← h]
  cases s.toList <;> simp
theorem empty_iffW (s : ByteArray) : s = ByteArray.empty ↔ s.size = 0 := by
  constructor
  · rintro rfl; rfl
  · intro h
    cases s with
    | mk d => rw [show d = #[] from Array.eq_empty_of_size_eq_zero h]; rfl
theorem updMay_if (u : UpdE) : updMay u = if u.key.size = 0 ∨ 16 < u.key.size ∨ 32 < u.value.size then 13 else if u.kind < 1 ∨ 3 < u.kind ∨ (u.kind ≠ 1 ∧ u.value.size ≠ 0) ∨ (u.kind ≠ 3 ∧ u.delta ≠ 0) then 2 else 0 := by
  have h1 : ∀ s : ByteArray, (s.toList == []) = decide (s.size = 0) := fun s => size_nil
  have h2 : ∀ s : ByteArray, (s.toList != []) = decide (s.size ≠ 0) := fun s => by
    rw [bne, h1]; by_cases e : s.size = 0 <;> simp [e]
  unfold updMay updLarge updWrong
  rw [h1, h2]
  simp only [Bool.or_eq_true, decide_eq_true_eq, Bool.and_eq_true, bne_iff_ne, ne_eq, or_assoc]
set_option maxRecDepth 100000 in
set_option maxHeartbeats 3200000 in
theorem rCheck12_upd {W : World} (u : UpdE) : Calls Tryz.prog 158 #[updV u] W fun e w' => e = .returned (.int .i64 (updMay u : Nat)) ∧ Hid (Mods [] W w') := by
  rw [updMay_if]
  obtain ⟨k, key, val, d⟩ := u
  unfold updV
  have e1 := nil_size key
  have e2 := nil_size val
  simp only
  go_enter Tryz.func158, Tryz.ntmps158
  go_wp2_with fail
  all_goals go_ret
  all_goals refine ⟨?_, Lib.hid ((Mods.refl _ _).alloc _)⟩
  all_goals try simp only [empty_iffW, bne_iff_ne, bne_eq_false_iff_eq, ne_eq] at *
  all_goals (repeat' split) <;> first | rfl | (exfalso; omega)
theorem byte_string (W : World) (x : Nat) (hx : x < 256) : (convert 22 9 (.slice (some ⟨W.heap.size, 0, none⟩) 1 1)).run Tryz.prog (W.alloc (.cells #[.int .u8 (x : Nat)] 5)) = .ok (.string ⟨#[UInt8.ofNat x]⟩) (W.alloc (.cells #[.int .u8 (x : Nat)] 5)) := by
  have := run_convert_bytes_back (P := Tryz.prog) (W.alloc (.cells #[.int .u8 (x : Nat)] 5)) 22 9 5 ⟨W.heap.size, 0, none⟩ 1 [UInt8.ofNat x] Tryz.underlying22 Tryz.underlying5 Tryz.underlying9 (fun j hj => by
    have hj0 : j = 0 := by simpa using hj
    subst hj0
    rw [addr_add0]
    have e1 : (UInt8.ofNat x).toNat = x := by simp; omega
    simp only [List.getElem_cons_zero, e1]
    exact (Blk.new W 5 [.int .u8 (x : Nat)]).cell (i := 0) rfl)
  exact this
theorem byte_string2 (W : World) (x y : Nat) (hx : x < 256) (hy : y < 256) : (convert 22 9 (.slice (some ⟨W.heap.size, 0, none⟩) 2 2)).run Tryz.prog (W.alloc (.cells #[.int .u8 (x : Nat), .int .u8 (y : Nat)] 5)) = .ok (.string ⟨#[UInt8.ofNat x, UInt8.ofNat y]⟩) (W.alloc (.cells #[.int .u8 (x : Nat), .int .u8 (y : Nat)] 5)) := by
  have := run_convert_bytes_back (P := Tryz.prog) (W.alloc (.cells #[.int .u8 (x : Nat), .int .u8 (y : Nat)] 5)) 22 9 5 ⟨W.heap.size, 0, none⟩ 2 [UInt8.ofNat x, UInt8.ofNat y] Tryz.underlying22 Tryz.underlying5 Tryz.underlying9 (fun j hj => by
    have e1 : (UInt8.ofNat x).toNat = x := by simp; omega
    have e2 : (UInt8.ofNat y).toNat = y := by simp; omega
    have hj2 : j = 0 ∨ j = 1 := by simp at hj; omega
    rcases hj2 with rfl | rfl
    · rw [addr_add0]
      simp only [List.getElem_cons_zero, e1]
      exact (Blk.new W 5 [.int .u8 (x : Nat), .int .u8 (y : Nat)]).cell (i := 0) rfl
    · rw [addr_add]
      simp only [List.getElem_cons_succ, List.getElem_cons_zero, e2]
      exact (Blk.new W 5 [.int .u8 (x : Nat), .int .u8 (y : Nat)]).cell (i := 1) rfl)
  exact this
set_option maxRecDepth 100000 in
set_option maxHeartbeats 800000 in
/-- A number's eight bytes. -/
theorem rPut8 {W : World} (n : Nat) (hn : n < 18446744073709551616) : Calls Tryz.prog 159 #[.int .u64 (n : Nat), .int .i64 8] W fun e w' => ∃ z t, e = .returned (.tuple #[.string z, .bool t]) ∧ Hid (z.size = 8) ∧ Hid (Mods [] W w') := by
  go_enter Tryz.func159, Tryz.ntmps159
  go_wp2_with fail
  go_loopw [0, 6, 7] (fun nv sv jv wr => ∃ (j m : Nat) (z : ByteArray), j ≤ 8 ∧ jv = .int .i64 j ∧ nv = .int .u64 (m : Nat) ∧ sv = .string z ∧ m < 18446744073709551616 ∧ z.size = j ∧ Mods [] W wr) (fun _ _ jv _ => 8 - (intOf jv).toNat)
  case atStart => exact ⟨0, n, ⟨#[]⟩, by omega, rfl, rfl, rfl, hn, rfl, Mods.refl _ _⟩
  case round =>
    obtain ⟨j, m, z, hj, rfl, rfl, rfl, hm64, hz, hm⟩ := hrel
    have HZ := Lib.hid hz
    have HM := Lib.hid hm
    have hzl : z.size ≤ 8 := by omega
    clear hz hm
    by_cases hj8 : j < 8
    · obtain ⟨x, hx⟩ : ∃ x, m % 256 = x := ⟨_, rfl⟩
      have hx1 : (m : Int) % 256 = (x : Int) := by omega
      have hx2 : (m : Int).tmod 256 = (x : Int) := by rw [Int.tmod_eq_emod_of_nonneg (by omega)]; omega
      obtain ⟨y, hy⟩ : ∃ y, m / 256 = y := ⟨_, rfl⟩
      have hy1 : (m : Int) / 256 = (y : Int) := by omega
      have hy2 : (m : Int).tdiv 256 = (y : Int) := by rw [Int.tdiv_eq_ediv_of_nonneg (by omega)]; omega
      have hcv := byte_string wr x (by omega)
      have hyl : y < 18446744073709551616 := by omega
      clear hx hy
      go_wp2_with fail
      go_roundw
      case rel => exact ⟨j + 1, y, _, by omega, by go_num, rfl, rfl, by omega, by rw [ByteArray.size_append, HZ.out]; rfl, HM.out.alloc _⟩
      case measure => simp [intOf]; omega
    · obtain rfl : j = 8 := by omega
      go_wp2_with fail
      go_ret2
      exact ⟨z, _, rfl, HZ, HM⟩
theorem sz1 (a : UInt8) : (⟨#[a]⟩ : ByteArray).size = 1 := rfl
theorem sz2 (a b : UInt8) : (⟨#[a, b]⟩ : ByteArray).size = 2 := rfl
set_option maxRecDepth 100000 in
set_option maxHeartbeats 3200000 in
/-- The document's text of updates: its error, and its size. -/
theorem rText12_any {W : World} {A : Option Addr} {len cap : Nat} {us : List UpdE} (hr : Row W A (uRow us)) (hn : us.length = len) (hl : len ≤ 10) (hd : ∀ u ∈ us, u.delta < 18446744073709551616 ∧ u.kind < 256) :
    Calls Tryz.prog 114 #[.slice A len cap] W fun e w' => ∃ z, e = .returned (.tuple #[.string z, .int .i64 (recE us : Nat)]) ∧ Hid (recE us = 0 → z.size = (recL us).length) ∧ Hid (z.size ≤ 510) ∧ Hid (Mods [] W w') := by
  have HR := Lib.hid hr
  have HN := Lib.hid hn
  have HD := Lib.hid hd
  clear hr hn hd
  go_enter Tryz.func114, Tryz.ntmps114
  go_wp2_with fail
  go_loopw [4, 5] (fun ov iv wr => ∃ (i : Nat) (o : ByteArray), i ≤ len ∧ iv = .int .i64 (i : Nat) ∧ ov = .string o ∧ o.size = (recL (us.take i)).length ∧ Mods [] W wr ∧ ∀ v ∈ us.take i, updMay v = 0) (fun _ iv _ => len - (intOf iv).toNat)
  case atStart => exact ⟨0, ⟨#[]⟩, by omega, rfl, rfl, rfl, Mods.refl _ _, by simp⟩
  case round =>
    obtain ⟨i, o, hi, rfl, rfl, ho, hM, hA⟩ := hrel
    have hlenb : (recL (us.take i)).length ≤ 51 * i := by
      have h1 := recL_len (us := us.take i) (fun v hv => ok_of_may (hA v hv) (HD.out v (List.mem_of_mem_take hv)).1)
      rw [List.length_take] at h1
      omega
    have hos : o.size ≤ 510 := by omega
    have HO := Lib.hid ho
    have HM := Lib.hid hM
    have HA := Lib.hid hA
    clear ho hM hA hlenb
    by_cases hlt : i < len
    · have hlti : (i : Int) < (len : Int) := by omega
      have hz : i < us.length := by rw [HN.out]; exact hlt
      have hx : us[i]? = some us[i] := List.getElem?_eq_getElem hz
      obtain ⟨bz, oz, rfl, d0, d1, d2, d3⟩ := uRow_at (HR.out.keep HM.out (fun _ _ => by simp)) hx
      have hdl := HD.out _ (List.getElem_mem hz)
      obtain ⟨u, hu⟩ : ∃ u, us[i] = u := ⟨_, rfl⟩
      rw [hu] at hx d0 d1 d2 d3 hdl
      have HX := Lib.hid hx
      have HDL := Lib.hid hdl
      obtain ⟨wa, hwa⟩ : ∃ wa, wr.alloc (.cells #[.int .u8 (u.kind : Nat), .string u.key, .string u.value, .int .u64 (u.delta : Nat)] 225) = wa := ⟨_, rfl⟩
      obtain ⟨bx, hbx⟩ : ∃ bx, wr.heap.size = bx := ⟨_, rfl⟩
      have HBX : Hid (Blk wa bx 225 [.int .u8 (u.kind : Nat), .string u.key, .string u.value, .int .u64 (u.delta : Nat)]) := Lib.hid (by rw [← hwa, ← hbx]; exact Blk.new wr 225 _)
      have HMA : Hid (Mods [] W wa) := Lib.hid (by rw [← hwa]; exact HM.out.alloc _)
      have cK0 := rCheck12_upd (W := wa) u
      unfold updV at cK0
      have cK := Lib.hid cK0
      clear hx hu hdl cK0
      go_upto_region 6 with fail
      try rw [hwa, hbx]
      clear hwa hbx d0 d1 d2 d3
      have c0 := HBX.out.cell (i := 0) rfl
      have c1 := HBX.out.cell (i := 1) rfl
      have c2 := HBX.out.cell (i := 2) rfl
      have c3 := HBX.out.cell (i := 3) rfl
      by_cases hmay : updMay u = 0
      · rw [hmay] at cK
        have HOK := Lib.hid (ok_of_may hmay HDL.out.1)
        have HMAY := Lib.hid hmay
        have hk1 := HOK.out.k1
        have hk3 := HOK.out.k3
        have hks := HOK.out.key
        have hvs := HOK.out.val
        have hdd := HOK.out.del
        have HNX : Hid (∀ n, n = o.size + (updL u).length → n = (recL (us.take (i + 1))).length) := Lib.hid (fun n hn => by rw [recL_take HX.out, List.length_append, ← HO.out]; exact hn)
        have HAX : Hid (∀ v ∈ us.take (i + 1), updMay v = 0) := Lib.hid (fun v hv => by
          rw [List.take_add_one, HX.out] at hv
          rcases List.mem_append.1 hv with hv | hv
          · exact HA.out v hv
          · have e : v = u := by simpa using hv
            rw [e]; exact HMAY.out)
        clear hmay
        have hkw : IntKind.u8.wrap (u.key.size : Int) = (u.key.size : Int) := by rw [IntKind.wrap_u8]; omega
        have hvw : IntKind.u8.wrap (u.value.size : Int) = (u.value.size : Int) := by rw [IntKind.wrap_u8]; omega
        go_upto_region 7 with (first | (go_at_call 158; refine cK.out.mono ?_; rintro e w2 ⟨rfl, HM2⟩) | fail)
        have HB2 := Lib.hid (HBX.out.keep HM2.out (by simp))
        have c0 := HB2.out.cell (i := 0) rfl
        have c1 := HB2.out.cell (i := 1) rfl
        have c2 := HB2.out.cell (i := 2) rfl
        have c3 := HB2.out.cell (i := 3) rfl
        have HMW2 := Lib.hid (HMA.out.trans HM2.out (by simp))
        clear cK
        have hks2 : u.key.size < 256 := by omega
        have hkd : u.kind < 256 := HDL.out.2
        have hc1 := byte_string2 w2 u.kind u.key.size hkd hks2
        obtain ⟨w3, hw3⟩ : ∃ w3, w2.alloc (.cells #[.int .u8 (u.kind : Nat), .int .u8 (u.key.size : Nat)] 5) = w3 := ⟨_, rfl⟩
        have HM3 : Hid (Mods [] w2 w3) := Lib.hid (by rw [← hw3]; exact (Mods.refl _ _).alloc _)
        rw [hw3] at hc1
        have HB3 := Lib.hid (HB2.out.keep HM3.out (by simp))
        have e0 := HB3.out.cell (i := 0) rfl
        have e1 := HB3.out.cell (i := 1) rfl
        have e2 := HB3.out.cell (i := 2) rfl
        have e3 := HB3.out.cell (i := 3) rfl
        have HLEN : Hid ((updL u).length = 2 + u.key.size + (if u.kind = 1 then u.value.size + 1 else if u.kind = 3 then 8 else 0)) := Lib.hid (by
          unfold updL
          rw [List.length_cons, List.length_append, joinL_len]
          split
          · rw [joinL_len]; omega
          · split
            · rw [le8_len]; omega
            · simp; omega)
        obtain hk | hk | hk : u.kind = 1 ∨ u.kind = 2 ∨ u.kind = 3 := by omega
        · rw [hk] at HLEN c0 e0 hc1 hw3
          have hw3' : w2.alloc (.cells #[.int .u8 1, .int .u8 (u.key.size : Nat)] 5) = w3 := hw3
          have c0' : w2.cell? ⟨bx, 0, none⟩ = some (.int .u8 1) := c0
          have e0' : w3.cell? ⟨bx, 0, none⟩ = some (.int .u8 1) := e0
          clear hw3 c0 e0
          have hv256 : u.value.size < 256 := by omega
          have hc2 := byte_string w3 u.value.size hv256
          clear hk1 hk3 hkd
          obtain ⟨w5, hw5⟩ : ∃ w5, w3.alloc (.cells #[.int .u8 (u.value.size : Nat)] 5) = w5 := ⟨_, rfl⟩
          have HM5 : Hid (Mods [] w3 w5) := Lib.hid (by rw [← hw5]; exact (Mods.refl _ _).alloc _)
          rw [hw5] at hc2
          have HB5 := Lib.hid (HB3.out.keep HM5.out (by simp))
          have f0 := HB5.out.cell (i := 0) rfl
          rw [hk] at f0
          have f0' : w5.cell? ⟨bx, 0, none⟩ = some (.int .u8 1) := f0
          have f2 := HB5.out.cell (i := 2) rfl
          clear hk f0
          go_wp2_with fail
          go_roundw
          case rel =>
            refine ⟨i + 1, _, by omega, by go_num, rfl, HNX.out _ ?_, (HMW2.out.trans HM3.out (by simp)).trans HM5.out (by simp), HAX.out⟩
            rw [HLEN.out]
            simp only [ByteArray.size_append, sz1, sz2, if_true]
            omega
          case measure => simp [intOf]; omega
        · rw [hk] at HLEN c0 e0 hc1 hw3
          have hw3' : w2.alloc (.cells #[.int .u8 2, .int .u8 (u.key.size : Nat)] 5) = w3 := hw3
          have c0' : w2.cell? ⟨bx, 0, none⟩ = some (.int .u8 2) := c0
          have e0' : w3.cell? ⟨bx, 0, none⟩ = some (.int .u8 2) := e0
          clear hw3 c0 e0
          clear hk1 hk3 hk hkd
          go_wp2_with fail
          go_roundw
          case rel =>
            refine ⟨i + 1, _, by omega, by go_num, rfl, HNX.out _ ?_, HMW2.out.trans HM3.out (by simp), HAX.out⟩
            rw [HLEN.out]
            simp only [ByteArray.size_append, sz2]
            rw [if_neg (by decide), if_neg (by decide)]
            omega
          case measure => simp [intOf]; omega
        · rw [hk] at HLEN c0 e0 hc1 hw3
          have hw3' : w2.alloc (.cells #[.int .u8 3, .int .u8 (u.key.size : Nat)] 5) = w3 := hw3
          have c0' : w2.cell? ⟨bx, 0, none⟩ = some (.int .u8 3) := c0
          have e0' : w3.cell? ⟨bx, 0, none⟩ = some (.int .u8 3) := e0
          clear hw3 c0 e0
          have cP := Lib.hid (rPut8 (W := w3) u.delta hdd)
          clear hk1 hk3 hk hkd
          go_wp2_with (first | (go_at_call 159; refine cP.out.mono ?_; rintro e w4 ⟨z, tt, rfl, hz8, HM4⟩; have hzl : z.size ≤ 8 := Nat.le_of_eq hz8.out) | fail)
          go_roundw
          case rel =>
            refine ⟨i + 1, _, by omega, by go_num, rfl, HNX.out _ ?_, (HMW2.out.trans HM3.out (by simp)).trans HM4.out (by simp), HAX.out⟩
            rw [HLEN.out]
            simp only [ByteArray.size_append, sz2]
            rw [if_neg (by decide), hz8.out]
            simp only [if_true]
            omega
          case measure => simp [intOf]; omega
      · have hmay2 : ¬ (updMay u : Int) = 0 := by omega
        have HEQ : Hid (recE us = updMay u) := Lib.hid (recE_at HX.out hmay HA.out)
        clear hmay
        go_wp2_with (first | (go_at_call 158; refine cK.out.mono ?_; rintro e w2 ⟨rfl, HM2⟩) | fail)
        go_ret2
        refine ⟨⟨#[]⟩, by rw [HEQ.out]; rfl, Lib.hid (fun h => ?_), Lib.hid (Nat.zero_le _), Lib.hid (HMA.out.trans HM2.out (by simp))⟩
        exact absurd (HEQ.out.symm.trans h) (by omega)
    · obtain rfl : i = len := by omega
      have hlti : ¬ (i : Int) < (i : Int) := by omega
      have hE : recE us = 0 := recE_ok (fun u hu => HA.out u (by rw [← HN.out, List.take_length]; exact hu))
      have HE := Lib.hid hE
      clear hE
      go_wp2_with fail
      go_ret2
      refine ⟨o, by rw [HE.out]; rfl, Lib.hid (fun _ => ?_), Lib.hid hos, HM⟩
      rw [HO.out, ← HN.out, List.take_length]
end Go.Proofs.YtnpfhfgegjocoaaGreat
/- WalPlays: updates. -/
namespace Go.Proofs.YtnpfhfgegjocoaaGreat
open Go.RowKit

def cutU (u : UpdE) : UpdE := ⟨u.kind, u.key.extract 0 (min u.key.size 20), u.value.extract 0 (min u.value.size 36), u.delta⟩
/-- What updates answers. -/
def updsE (us : List UpdE) : Nat := if us = [] then 2 else recE us
def cutUs (us : List UpdE) : List UpdE := (us.take 5).map cutU
theorem info_updW : (Tryz.prog.info? 113).map (fun i => (i.zero, i.size, i.bytes)) = some (some (.agg #[.int .u8 0, .string ⟨#[]⟩, .string ⟨#[]⟩, .int .u64 0]), 4, 48) := by kernel_rfl
theorem info_up12 : (Tryz.prog.info? 225).map (fun i => (i.zero, i.size, i.bytes)) = some (some (.agg #[.int .u8 0, .string ⟨#[]⟩, .string ⟨#[]⟩, .int .u64 0]), 4, 48) := by kernel_rfl
theorem info_updL : (Tryz.prog.info? 224).map (fun i => (i.zero, i.size, i.bytes)) = some (some (.agg #[.int .u8 0, .string ⟨#[]⟩, .string ⟨#[]⟩, .int .u64 0]), 4, 48) := by kernel_rfl
theorem owns_by {w w' : World} {base e s n : Nat} {v : Value} {xs : List Value} {row : Option Nat} (h : w.ownsRow base e s v n xs) (g : w.grownBy w' row) (hne : ∀ k, v.ownBlock = some k → row ≠ some k) : w'.ownsRow base e s v n xs :=
  owns_keepF h ((Mods.refl row.toList w).grown g (fun k hk => .inl (by rw [hk]; simp))) (fun k hk hx => hne k hk (Option.mem_toList.1 hx))
theorem cutUs_snoc {us : List UpdE} {i : Nat} {u : UpdE} (h : us[i]? = some u) (hi : i < 5) : uRow ((cutUs us).take i) ++ updC (cutU u) = uRow ((cutUs us).take (i + 1)) := by
  have e : (cutUs us)[i]? = some (cutU u) := by unfold cutUs; rw [List.getElem?_map, List.getElem?_take, if_pos hi, h]; rfl
  rw [List.take_add_one, e]
  unfold uRow
  simp
set_option maxRecDepth 100000 in
set_option maxHeartbeats 6400000 in
theorem w13Upds_any {W : World} {A : Option Addr} {len cap : Nat} {us : List UpdE} (hr : Row W A (uRow us)) (hn : us.length = len) (hlc : len ≤ cap) (hd : ∀ u ∈ us, u.delta < 18446744073709551616 ∧ u.kind < 256) :
    Calls Tryz.prog 60 #[.slice A len cap] W fun e w' => ∃ (B : Option Addr) (c n : Nat), e = .returned (.tuple #[.slice B (cutUs us).length c, .int .i64 (n : Nat),   .int .i64 (updsE (cutUs us) : Nat)]) ∧ Hid (cutUs us ≠ [] → recE (cutUs us) = 0 → n = (recL (cutUs us)).length) ∧ Hid (w'.ownsRow W.heap.size 113 4 (.slice B (cutUs us).length c) (cutUs us).length (uRow (cutUs us))) ∧ Hid (Mods [] W w') := by
  have HR := Lib.hid hr
  have HN := Lib.hid hn
  have HD := Lib.hid hd
  clear hr hn hd
  obtain ⟨q, hq⟩ : ∃ q : Nat, min (len : Int) 5 = (q : Int) := ⟨min len 5, by omega⟩
  have hql : q ≤ len := by omega
  have hq5 : q ≤ 5 := by omega
  have HVL : Hid ((cutUs us).length = q) := Lib.hid (by unfold cutUs; rw [List.length_map, List.length_take, HN.out]; omega)
  obtain ⟨iL, hiL, _, _, _⟩ := info_parts info_updL
  have hsl := fun (k : Int) (h0 : 0 ≤ k) (h1 : k ≤ cap) (W : World) => run_prefix Tryz.prog 117 224 iL A len cap k W Tryz.underlying117 hiL h0 h1
  go_enter Tryz.func60, Tryz.ntmps60
  go_wp2_with fail
  go_loopw [5, 6, 17] (fun av bv iv wr => ∃ i : Nat, i ≤ q ∧ iv = .int .i64 (i : Nat) ∧ wr.ownsRow W.heap.size 113 4 av i (uRow ((cutUs us).take i)) ∧ wr.ownsRow W.heap.size 225 4 bv i (uRow ((cutUs us).take i)) ∧ (∀ g, av.ownBlock = some g → bv.ownBlock ≠ some g) ∧ Mods [] W wr) (fun _ _ iv _ => q - (intOf iv).toNat)
  case atStart => exact ⟨0, by omega, rfl, World.ownsRow_nil _ _ _ _, World.ownsRow_nil _ _ _ _, (fun g hg => by cases hg), Mods.refl _ _⟩
  case round =>
    obtain ⟨i, hi, rfl, hoa, hob, hab, hM⟩ := hrel
    obtain ⟨Aa, ca, hva, _⟩ := owns_shapeD hoa
    obtain ⟨Ab, cb, hvb, _⟩ := owns_shapeD hob
    subst hva
    subst hvb
    have HOA := Lib.hid hoa
    have HOB := Lib.hid hob
    have HAB := Lib.hid hab
    have HM := Lib.hid hM
    clear hoa hob hab hM
    by_cases hlt : i < q
    · have hlti : (i : Int) < (q : Int) := by omega
      have hz : i < us.length := by rw [HN.out]; omega
      have hx : us[i]? = some us[i] := List.getElem?_eq_getElem hz
      obtain ⟨bz, oz, rfl, d0, d1, d2, d3⟩ := uRow_at (HR.out.keep HM.out (fun _ _ => by simp)) hx
      have hdl := HD.out _ (List.getElem_mem hz)
      obtain ⟨u, hu⟩ : ∃ u, us[i] = u := ⟨_, rfl⟩
      rw [hu] at hx d0 d1 d2 d3 hdl
      have HSN := Lib.hid (cutUs_snoc hx (by omega))
      obtain ⟨wa, hwa⟩ : ∃ wa, wr.alloc (.cells #[.int .u8 (u.kind : Nat), .string u.key, .string u.value, .int .u64 (u.delta : Nat)] 224) = wa := ⟨_, rfl⟩
      obtain ⟨bx, hbx⟩ : ∃ bx, wr.heap.size = bx := ⟨_, rfl⟩
      have HBX : Hid (Blk wa bx 224 [.int .u8 (u.kind : Nat), .string u.key, .string u.value, .int .u64 (u.delta : Nat)]) := Lib.hid (by rw [← hwa, ← hbx]; exact Blk.new wr 224 _)
      have HMA : Hid (Mods [] wr wa) := Lib.hid (by rw [← hwa]; exact (Mods.refl _ _).alloc _)
      clear hx hu hdl
      go_upto_region 6 with fail
      try rw [hwa, hbx]
      clear hwa d0 d1 d2 d3
      obtain ⟨k1, hk1⟩ : ∃ k1, min u.key.size 20 = k1 := ⟨_, rfl⟩
      obtain ⟨v1, hv1⟩ : ∃ v1, min u.value.size 36 = v1 := ⟨_, rfl⟩
      have hm1 : min (u.key.size : Int) 20 = (k1 : Int) := by omega
      have hm2 : min (u.value.size : Int) 36 = (v1 : Int) := by omega
      have hk1l : k1 ≤ u.key.size := by omega
      have hv1l : v1 ≤ u.value.size := by omega
      have c0 := HBX.out.cell (i := 0) rfl
      have c1 := HBX.out.cell (i := 1) rfl
      have c2 := HBX.out.cell (i := 2) rfl
      have c3 := HBX.out.cell (i := 3) rfl
      have f1 := HBX.out.free 1
      have f2 := HBX.out.free 2
      go_region
      obtain ⟨wb, hwb⟩ : ∃ wb, ((wa.setCell ⟨bx, 1, none⟩ (.string (u.key.extract 0 k1))).setCell ⟨bx, 2, none⟩ (.string (u.value.extract 0 v1))).drew = wb := ⟨_, rfl⟩
      obtain ⟨kx, hkx⟩ : ∃ kx, u.key.extract 0 k1 = kx := ⟨_, rfl⟩
      obtain ⟨vx, hvx⟩ : ∃ vx, u.value.extract 0 v1 = vx := ⟨_, rfl⟩
      have HCU : Hid (cutU u = ⟨u.kind, kx, vx, u.delta⟩) := Lib.hid (by unfold cutU; rw [hk1, hv1, hkx, hvx])
      rw [hkx, hvx] at hwb
      have HBB : Hid (Blk wb bx 224 [.int .u8 (u.kind : Nat), .string kx, .string vx, .int .u64 (u.delta : Nat)]) := Lib.hid (by rw [← hwb]; exact (((HBX.out.set 1 (.string kx)).set 2 (.string vx)).drewN 1))
      have HMB : Hid (Mods [] wr wb) := Lib.hid (by rw [← hwb]; exact ((HMA.out.setCell (.inr (by show wr.heap.size ≤ bx; omega)) _).setCell (.inr (by show wr.heap.size ≤ bx; omega)) _).drew)
      rw [hkx, hvx, hwb]
      have c0 := HBB.out.cell (i := 0) rfl
      have c1 := HBB.out.cell (i := 1) rfl
      have c2 := HBB.out.cell (i := 2) rfl
      have c3 := HBB.out.cell (i := 3) rfl
      have hbxl : wr.heap.size ≤ bx := by omega
      obtain ⟨w7, hw7⟩ : ∃ w7, wb.alloc (.cells #[.int .u8 (u.kind : Nat), .string kx, .string vx, .int .u64 (u.delta : Nat)] 113) = w7 := ⟨_, rfl⟩
      have hsz7 : w7.heap.size = wb.heap.size + 1 := by rw [← hw7]; simp
      have hcn7 : ∀ j z, [Value.int .u8 (u.kind : Nat), .string kx, .string vx, .int .u64 (u.delta : Nat)][j]? = some z → w7.cell? ((⟨wb.heap.size, 0, none⟩ : Addr).add j) = some z := by rw [← hw7]; exact cells_new4 wb _ _ _ _ _ _ rfl
      have HM7 : Hid (Mods [] wr w7) := Lib.hid (by rw [← hw7]; exact HMB.out.alloc _)
      have HOA7 := Lib.hid (owns_keepF HOA.out HM7.out (by simp))
      have HOB7 := Lib.hid (owns_keepF HOB.out HM7.out (by simp))
      have HBB7 : Hid (Blk w7 bx 224 [.int .u8 (u.kind : Nat), .string kx, .string vx, .int .u64 (u.delta : Nat)]) := Lib.hid (by rw [← hw7]; exact HBB.out.alloc _)
      have hbase7 : W.heap.size ≤ w7.heap.size := (HM.out.trans HM7.out (by simp)).size
      clear f1 f2 hk1 hv1 hm1 hm2 hk1l hv1l hkx hvx hwb
      obtain ⟨i0, hi0, hz1, hz2, hz3⟩ := info_parts info_updW
      obtain ⟨j0, hj0, hy1, hy2, hy3⟩ := info_parts info_up12
      go_upto_region 8 with (first
        | (at_builtin; refine wpList_append_lies _ rfl (.tmp 37) (.tmp 47) 116 rfl W.heap.size 113 i0 (.agg #[.int .u8 0, .string ⟨#[]⟩, .string ⟨#[]⟩, .int .u64 0]) 4 48 Tryz.underlying116 hi0 hz1 hz2 hz3 rfl (by decide) _ _ _ rfl HOA7.out ⟨wb.heap.size, 0, none⟩ 1 1 [.int .u8 (u.kind : Nat), .string kx, .string vx, .int .u64 (u.delta : Nat)] rfl rfl hcn7 (by simp [Value.oneCell']) (by decide) (by simp only [maxLen]; omega) (by omega) hbase7 (wb.heap.size + 1) hsz7 ?_; intro g2 cap2 w8 hown3 hg3 hat3 hlt3)
        | fail)
      have hg3' : w7.grownBy w8 (Value.slice Aa i ca).ownBlock := hg3
      have hat3' : (Value.slice Aa i ca).ownBlock = some g2 ∨ g2 = wb.heap.size + 1 := hat3
      have hAB := HAB.out
      have HOB8 := Lib.hid (owns_by HOB7.out hg3' (fun k hk e => hAB k e hk))
      have HBB8 : Hid (Blk w8 bx 224 [.int .u8 (u.kind : Nat), .string kx, .string vx, .int .u64 (u.delta : Nat)]) := Lib.hid (HBB7.out.keep ((Mods.refl (Value.slice Aa i ca).ownBlock.toList w7).grown hg3' (fun k hk => .inl (by rw [hk]; simp))) (fun hx => by
        have := (owns_ltF HOA.out (Option.mem_toList.1 hx)).2
        omega))
      have HM8 : Hid (Mods [] W w8) := Lib.hid (((HM.out.trans HM7.out (by simp))).grown hg3' (fun k hk => .inr (owns_ltF HOA.out hk).1))
      have HNB : Hid (∀ k, (Value.slice Ab i cb).ownBlock = some k → k ≠ g2) := Lib.hid (fun k hk e => by
        subst e
        rcases hat3' with h | h
        · exact hAB _ h hk
        · have := (owns_ltF HOB7.out hk).2; omega)
      have HO3 := Lib.hid hown3
      have c0 := HBB8.out.cell (i := 0) rfl
      have c1 := HBB8.out.cell (i := 1) rfl
      have c2 := HBB8.out.cell (i := 2) rfl
      have c3 := HBB8.out.cell (i := 3) rfl
      obtain ⟨w9, hw9⟩ : ∃ w9, w8.alloc (.cells #[.int .u8 (u.kind : Nat), .string kx, .string vx, .int .u64 (u.delta : Nat)] 225) = w9 := ⟨_, rfl⟩
      have hsz9 : w9.heap.size = w8.heap.size + 1 := by rw [← hw9]; simp
      have hcn9 : ∀ j z, [Value.int .u8 (u.kind : Nat), .string kx, .string vx, .int .u64 (u.delta : Nat)][j]? = some z → w9.cell? ((⟨w8.heap.size, 0, none⟩ : Addr).add j) = some z := by rw [← hw9]; exact cells_new4 w8 _ _ _ _ _ _ rfl
      have HM9 : Hid (Mods [] w8 w9) := Lib.hid (by rw [← hw9]; exact (Mods.refl _ _).alloc _)
      have HOB9 := Lib.hid (owns_keepF HOB8.out HM9.out (by simp))
      have HOA9 := Lib.hid (owns_keepF HO3.out HM9.out (by simp))
      have hbase9 : W.heap.size ≤ w9.heap.size := (HM8.out.trans HM9.out (by simp)).size
      clear hown3 hg3 hat3 hg3' hat3' hAB hcn7 hbase7 hsz7 hw7 hi0 hz1 hz2 hz3 i0
      go_wp2_with (first
        | (at_builtin; refine wpList_append_lies _ rfl (.tmp 49) (.tmp 51) 222 rfl W.heap.size 225 j0 (.agg #[.int .u8 0, .string ⟨#[]⟩, .string ⟨#[]⟩, .int .u64 0]) 4 48 Tryz.underlying222 hj0 hy1 hy2 hy3 rfl (by decide) _ _ _ rfl HOB9.out ⟨w8.heap.size, 0, none⟩ 1 1 [.int .u8 (u.kind : Nat), .string kx, .string vx, .int .u64 (u.delta : Nat)] rfl rfl hcn9 (by simp [Value.oneCell']) (by decide) (by simp only [maxLen]; omega) (by omega) hbase9 (w8.heap.size + 1) hsz9 ?_; intro g4 cap4 w10 hown4 hg4 hat4 hlt4)
        | fail)
      have hg4' : w9.grownBy w10 (Value.slice Ab i cb).ownBlock := hg4
      have hat4' : (Value.slice Ab i cb).ownBlock = some g4 ∨ g4 = w8.heap.size + 1 := hat4
      have HEQ : Hid (uRow ((cutUs us).take i) ++ [.int .u8 (u.kind : Nat), .string kx, .string vx, .int .u64 (u.delta : Nat)] = uRow ((cutUs us).take (i + 1))) := Lib.hid (by rw [← HSN.out, HCU.out]; rfl)
      have HO4 := Lib.hid hown4
      have HA10 := Lib.hid (owns_by HOA9.out hg4' (fun k hk e => by
        simp only [Value.ownBlock, Option.some.injEq] at hk
        exact HNB.out k e hk.symm))
      have HG24 : Hid (g2 ≠ g4) := Lib.hid (fun e => by
        rcases hat4' with h | h
        · exact HNB.out g4 h e.symm
        · omega)
      have HM10 : Hid (Mods [] W w10) := Lib.hid (((HM8.out.trans HM9.out (by simp))).grown hg4' (fun k hk => .inr (owns_ltF HOB.out hk).1))
      clear hown4 hg4 hat4 hg4' hat4'
      rw [HEQ.out] at HO4 HA10
      go_roundw
      case rel => exact ⟨i + 1, by omega, by go_num, HA10.out, HO4.out, (fun g hg e => by simp only [Value.ownBlock, Option.some.injEq] at hg e; exact HG24.out (by rw [hg, e])), HM10.out⟩
      case measure => simp [intOf]; omega
    · obtain rfl : i = q := by omega
      have hlti : ¬ (i : Int) < (i : Int) := by omega
      have htk : (cutUs us).take i = cutUs us := by rw [← HVL.out, List.take_length]
      rw [htk] at HOA HOB
      obtain ⟨vs, hvs⟩ : ∃ vs, cutUs us = vs := ⟨_, rfl⟩
      have HVD : Hid (∀ u ∈ vs, u.delta < 18446744073709551616 ∧ u.kind < 256) := Lib.hid (fun u hu => by
        rw [← hvs] at hu
        obtain ⟨z, hz, e⟩ := List.mem_map.1 hu
        rw [← e]
        exact HD.out z (List.mem_of_mem_take hz))
      rw [hvs] at HVL HOA HOB
      have HVS := Lib.hid hvs
      clear hvs htk
      have HROWB : Hid (Row wr Ab (uRow vs)) := Lib.hid (by
        have hc := fun g hg => HOB.out.cells (g := g) hg
        obtain ⟨k1, k2⟩ := HOB.out
        rcases k2 with ⟨e, hx⟩ | ⟨g, cap5, cur, e, _⟩
        · exact .inl (List.eq_nil_of_length_eq_zero (by rw [k1, show i = 0 by injection e]))
        · injection e with e1 e2 e3
          subst e1
          exact .inr ⟨g, 0, rfl, fun j z hj => by rw [Nat.zero_add]; have := hc g rfl j z hj; rw [addr_add0] at this; exact this⟩)
      have cT := Lib.hid (fun (c : Nat) => rText12_any (cap := c) HROWB.out HVL.out (by omega) HVD.out)
      by_cases h0 : i = 0
      · subst h0
        have HV0 : Hid (vs = []) := Lib.hid (List.eq_nil_of_length_eq_zero HVL.out)
        go_wp2_with (first | (go_at_call 114; refine (cT.out _).mono ?_; rintro e w2 ⟨z, rfl, hz1, hz2, HM2⟩; have hzs := hz2.out) | fail)
        go_ret3
        have hv0 := HV0.out
        subst hv0
        rw [HVS.out]
        exact ⟨none, 0, 0, rfl, Lib.hid (fun h => absurd rfl h), Lib.hid (World.ownsRow_nil _ _ _ _), Lib.hid (HM.out.trans HM2.out (by simp))⟩
      · have hi0 : ¬ (i : Int) = 0 := by omega
        have HV0 : Hid (vs ≠ []) := Lib.hid (fun e => h0 (by rw [← HVL.out, e]; rfl))
        go_wp2_with (first | (go_at_call 114; refine (cT.out _).mono ?_; rintro e w2 ⟨z, rfl, hz1, hz2, HM2⟩; have hzs := hz2.out) | fail)
        go_ret3
        rw [HVS.out]
        refine ⟨Aa, ca, z.size, by unfold updsE; rw [if_neg HV0.out, HVL.out]; rfl, Lib.hid (fun _ h => hz1.out h), Lib.hid ?_, Lib.hid (HM.out.trans HM2.out (by simp))⟩
        rw [HVL.out]
        exact owns_keepF HOA.out HM2.out (by simp)
end Go.Proofs.YtnpfhfgegjocoaaGreat
/- WalPlays: flat, head. -/
namespace Go.Proofs.YtnpfhfgegjocoaaGreat
open Go.RowKit

def flatU (rs : List (List UpdE)) : List UpdE := rs.flatten
theorem RecRow.at3 {w : World} {K : List Nat} {us : List UpdE} : ∀ {L : LogE} {rs : List (List UpdE)} {cs : List Value} {i : Nat}, RecRow w K L rs cs → rs[i]? = some us → ∃ n h A cap, cs[i * 3]? = some (.int .u64 ((n : Nat) : Int)) ∧ cs[i * 3 + 1]? = some (.int .u32 ((h : Nat) : Int)) ∧ cs[i * 3 + 2]? = some (.slice A us.length cap) ∧ Row w A (uRow us)
  | L, [], cs, i, _, h => by simp at h
  | L, v :: rs, cs, 0, ⟨A, cap, rest, e, h1, _⟩, h => by
    simp at h
    subst h
    exact ⟨L.next, L.chain, A, cap, by rw [e]; rfl, by rw [e]; rfl, by rw [e]; rfl, h1⟩
  | L, v :: rs, cs, i + 1, ⟨A, cap, rest, e, h1, _, _, _, h2⟩, h => by
    obtain ⟨n, hh, A2, cap2, k0, k1, k2, k3⟩ := RecRow.at3 h2 (i := i) (by simpa using h)
    refine ⟨n, hh, A2, cap2, ?_, ?_, ?_, k3⟩
    · rw [e, show (i + 1) * 3 = (i * 3) + 3 by omega]; exact k0
    · rw [e, show (i + 1) * 3 + 1 = (i * 3 + 1) + 3 by omega]; exact k1
    · rw [e, show (i + 1) * 3 + 2 = (i * 3 + 2) + 3 by omega]; exact k2
theorem uRow_len (us : List UpdE) : (uRow us).length = us.length * 4 := by
  unfold uRow
  induction us with
  | nil => rfl
  | cons u us ih => rw [List.flatMap_cons, List.length_append, ih, List.length_cons, updC_len]; omega
theorem uRow_app (a b : List UpdE) : uRow (a ++ b) = uRow a ++ uRow b := by unfold uRow; rw [List.flatMap_append]
theorem uRow_one (us : List UpdE) : ∀ u ∈ uRow us, u.oneCell' = true := by
  intro u hu
  unfold uRow at hu
  obtain ⟨x, _, hx⟩ := List.mem_flatMap.1 hu
  simp only [updC, List.mem_cons, List.not_mem_nil, or_false] at hx
  rcases hx with rfl | rfl | rfl | rfl <;> rfl
theorem flat_take {rs : List (List UpdE)} {i : Nat} {us : List UpdE} (h : rs[i]? = some us) : flatU (rs.take (i + 1)) = flatU (rs.take i) ++ us := by
  unfold flatU
  rw [List.take_add_one, h]
  simp
set_option maxRecDepth 100000 in
set_option maxHeartbeats 3200000 in
theorem w13Flat_any {W : World} {A : Option Addr} {base n cap : Nat} {K : List Nat} {L : LogE} {rs : List (List UpdE)} {cs : List Value} (hr : W.ownsRow base 129 3 (.slice A n cap) n cs) (hrr : RecRow W K L rs cs) (hn : rs.length = n) (hn5 : n ≤ 10) (hne : ∀ us ∈ rs, us ≠ [] ∧ us.length ≤ 1000) :
    Calls Tryz.prog 59 #[.slice A n cap] W fun e w' => ∃ B c, e = .returned (.slice B (flatU rs).length c) ∧ Hid (w'.ownsRow W.heap.size 113 4 (.slice B (flatU rs).length c) (flatU rs).length (uRow (flatU rs))) ∧ Hid (Mods [] W w') := by
  have HR := Lib.hid hr
  have HRR := Lib.hid hrr
  have HN := Lib.hid hn
  have HNE := Lib.hid hne
  clear hr hrr hn hne
  go_enter Tryz.func59, Tryz.ntmps59
  go_wp2_with fail
  go_loopw [3, 8] (fun ov iv wr => ∃ (i m : Nat), i ≤ n ∧ iv = .int .i64 (i : Nat) ∧ (flatU (rs.take i)).length = m ∧ m ≤ 1000 * i ∧ wr.ownsRow W.heap.size 113 4 ov m (uRow (flatU (rs.take i))) ∧ Mods [] W wr) (fun _ iv _ => n - (intOf iv).toNat)
  case atStart => exact ⟨0, 0, by omega, rfl, rfl, by omega, World.ownsRow_nil _ _ _ _, Mods.refl _ _⟩
  case round =>
    obtain ⟨i, m, hi, rfl, hm, hml, ho, hM⟩ := hrel
    obtain ⟨Ao, co, hvo, _⟩ := owns_shapeD ho
    subst hvo
    have HO := Lib.hid ho
    have HM := Lib.hid hM
    have HML := Lib.hid hm
    clear ho hM hm
    by_cases hlt : i < n
    · have hlti : (i : Int) < (n : Int) := by omega
      have hz : i < rs.length := by rw [HN.out]; exact hlt
      have hx : rs[i]? = some rs[i] := List.getElem?_eq_getElem hz
      obtain ⟨hne1, hne2⟩ := HNE.out _ (List.getElem_mem hz)
      obtain ⟨us, hu⟩ : ∃ us, rs[i] = us := ⟨_, rfl⟩
      rw [hu] at hx hne1 hne2
      obtain ⟨sq, ch, A1, c1, k0, k1, k2, k3⟩ := HRR.out.at3 hx
      obtain ⟨A2, cap2, hA2, hcells⟩ := owns_shapeD (owns_keepF HR.out HM.out (by simp))
      injection hA2 with hA2 hle hcp
      subst hA2
      subst hcp
      clear hle
      obtain ⟨g6, rfl, e0⟩ := hcells _ _ k0
      obtain ⟨_, hg, e1⟩ := hcells _ _ k1
      injection hg with hg
      injection hg with hg
      subst hg
      obtain ⟨_, hg, e2⟩ := hcells _ _ k2
      injection hg with hg
      injection hg with hg
      subst hg
      obtain ⟨nu, hnu⟩ : ∃ nu, us.length = nu := ⟨_, rfl⟩
      have hnu0 : 0 < nu := by rw [← hnu]; exact List.length_pos_iff.2 hne1
      obtain ⟨bu, ou, rfl, hcu⟩ : ∃ bu ou, A1 = some ⟨bu, ou, none⟩ ∧ ∀ j z, (uRow us)[j]? = some z → W.cell? ⟨bu, ou + j, none⟩ = some z := by
        rcases k3 with h | ⟨bu, ou, h1, h2⟩
        · have := uRow_len us
          rw [h] at this
          simp at this
          omega
        · exact ⟨bu, ou, h1, h2⟩
      rw [hnu] at e2 hne2
      obtain ⟨wa, hwa⟩ : ∃ wa, wr.alloc (.cells #[.int .u64 (sq : Nat), .int .u32 (ch : Nat), .slice (some ⟨bu, ou, none⟩) nu c1] 129) = wa := ⟨_, rfl⟩
      obtain ⟨bx, hbx⟩ : ∃ bx, wr.heap.size = bx := ⟨_, rfl⟩
      have HBX : Hid (Blk wa bx 129 [.int .u64 (sq : Nat), .int .u32 (ch : Nat), .slice (some ⟨bu, ou, none⟩) nu c1]) := Lib.hid (by rw [← hwa, ← hbx]; exact Blk.new wr 129 _)
      have HMA : Hid (Mods [] wr wa) := Lib.hid (by rw [← hwa]; exact (Mods.refl _ _).alloc _)
      have HOA := Lib.hid (owns_keepF HO.out HMA.out (by simp))
      have HMW := Lib.hid (HM.out.trans HMA.out (by simp))
      have hcn : ∀ j z, (uRow us)[j]? = some z → wa.cell? ((⟨bu, ou, none⟩ : Addr).add j) = some z := fun j z hj => by
        have h1 := hcu j z hj
        have hlt := World.block_lt_of_cell? W _ h1
        rw [addr_add, HMW.out.cell (p := ⟨bu, ou + j, none⟩) hlt (by simp)]
        exact h1
      have hbase : W.heap.size ≤ wa.heap.size := HMW.out.size
      have hul : (uRow us).length = nu * 4 := by rw [uRow_len, hnu]
      have HFT := Lib.hid (flat_take hx)
      have HNU := Lib.hid hnu
      obtain ⟨i0, hi0, hz1, hz2, hz3⟩ := info_parts info_updW
      go_upto_region 5 with fail
      try rw [hwa, hbx]
      clear hwa hbx e0 e1 e2 k0 k1 k2 k3 hcells hx hu hcu hnu hne1
      have f2 := HBX.out.cell (i := 2) rfl
      go_wp2_with (first
        | (at_builtin; refine wpList_append_lies _ rfl (.tmp 12) (.tmp 14) 116 rfl W.heap.size 113 i0 (.agg #[.int .u8 0, .string ⟨#[]⟩, .string ⟨#[]⟩, .int .u64 0]) 4 48 Tryz.underlying116 hi0 hz1 hz2 hz3 rfl (by decide) _ _ _ rfl HOA.out ⟨bu, ou, none⟩ nu c1 (uRow us) rfl hul hcn (uRow_one us) hnu0 (by simp only [maxLen]; omega) (by omega) hbase wa.heap.size rfl ?_; intro g2 cap2 w8 hown3 hg3 hat3 hlt3)
        | fail)
      have hg3' : wa.grownBy w8 (Value.slice Ao m co).ownBlock := hg3
      have HO3 := Lib.hid hown3
      have HM8 : Hid (Mods [] W w8) := Lib.hid (HMW.out.grown hg3' (fun k hk => .inr (owns_ltF HO.out hk).1))
      clear hown3 hg3 hat3 hg3'
      go_roundw
      case rel =>
        refine ⟨i + 1, m + nu, by omega, by go_num, ?_, by omega, ?_, HM8.out⟩
        · rw [HFT.out, List.length_append, HML.out, HNU.out]
        · rw [HFT.out, uRow_app]; exact HO3.out
      case measure => simp [intOf]; omega
    · obtain rfl : i = n := by omega
      have hlti : ¬ (i : Int) < (i : Int) := by omega
      have htk : rs.take i = rs := by rw [← HN.out, List.take_length]
      rw [htk] at HO HML
      have HMLX := Lib.hid HML.out
      clear htk
      go_wp2_with fail
      go_ret
      rw [HMLX.out]
      exact ⟨Ao, co, rfl, HO, HM⟩
set_option maxRecDepth 100000 in
set_option maxHeartbeats 3200000 in
/-- A list is its own beginning. -/
theorem w13Head_same {W : World} {A B : Option Addr} {n ca cb : Nat} {us : List UpdE} (ha : Row W A (uRow us)) (hb : Row W B (uRow us)) (hn : us.length = n) (hn5 : n ≤ 100000) :
    Calls Tryz.prog 58 #[.slice A n ca, .slice B n cb] W fun e w' => e = .returned (.bool true) ∧ Hid (Mods [] W w') := by
  have HA := Lib.hid ha
  have HB := Lib.hid hb
  have HN := Lib.hid hn
  clear ha hb hn
  go_enter Tryz.func58, Tryz.ntmps58
  go_wp2_with fail
  go_loopw [13] (fun iv wr => ∃ i : Nat, i ≤ n ∧ iv = .int .i64 (i : Nat) ∧ Mods [] W wr) (fun iv _ => n - (intOf iv).toNat)
  case atStart => exact ⟨0, by omega, rfl, Mods.refl _ _⟩
  case round =>
    obtain ⟨i, hi, rfl, hM⟩ := hrel
    have HM := Lib.hid hM
    clear hM
    by_cases hlt : i < n
    · have hlti : (i : Int) < (n : Int) := by omega
      have hz : i < us.length := by rw [HN.out]; exact hlt
      have hx : us[i]? = some us[i] := List.getElem?_eq_getElem hz
      obtain ⟨u, hu⟩ : ∃ u, us[i] = u := ⟨_, rfl⟩
      rw [hu] at hx
      obtain ⟨b1, o1, rfl, d0, d1, d2, d3⟩ := uRow_at (HA.out.keep HM.out (fun _ _ => by simp)) hx
      obtain ⟨b2, o2, rfl, g0, g1, g2, g3⟩ := uRow_at (HB.out.keep HM.out (fun _ _ => by simp)) hx
      clear hx hu
      go_upto_region 6 with fail
      go_quiet (fail)
      go_wp2_with fail
      go_roundw
      case rel => exact ⟨i + 1, by omega, by go_num, HM.out.drewN _⟩
      case measure => simp [intOf]; omega
    · obtain rfl : i = n := by omega
      have hlti : ¬ (i : Int) < (i : Int) := by omega
      go_wp2_with fail
      go_ret
      exact ⟨rfl, HM⟩
end Go.Proofs.YtnpfhfgegjocoaaGreat
/- WalPlays: an Append that is refused. -/
namespace Go.Proofs.YtnpfhfgegjocoaaGreat
open Go.RowKit

/-- What Append says to updates that aren't kept. -/
def badE (us : List UpdE) (full : Bool) (rm : Nat) : Nat :=
  if us.length = 0 then 2 else if recE us ≠ 0 then recE us else if rm < (recL us).length then 20 else if full then 11 else 0
section
variable {W w w' : World} {F : List Nat} {x : Nat → Nat} {b p tk lb : Nat} {M M' : Mi} {L : LogE} {B z c : Nat}
set_option maxRecDepth 100000 in
set_option maxHeartbeats 3200000 in
theorem lgApp_bad (h : LgIn W w F x b p tk lb M L) (hF : Fine B z c M.P) (hL : L.Ok) (hz0 : 128 ≤ z) (hz1 : z ≤ 1024)
    {A : Option Addr} {len cap : Nat} {us : List UpdE} (hr : Row w A (uRow us)) (hlen : us.length = len) (hl : len ≤ 1000) (hd : ∀ u ∈ us, u.delta < 18446744073709551616) {full : Bool} (hfull : full = decide (L.have_ = L.count)) {en : Nat} (he : badE us full (z - 38) = en) (hen : en ≠ 0) :
    Calls Tryz.prog 53 #[.pointer (some ⟨lb, 0, none⟩), .slice A len cap] w fun e w' => e = .returned (.int .i64 (en : Nat)) ∧ Hid (Mods [] w w') := by
  have h1 := hL.first
  have h2 := hL.count1
  have h3 := hL.count2
  have h4 := hL.have_
  have cT := Lib.hid (recText_any (cap := cap) hr hlen (by omega) hd)
  have cRm := Lib.hid (fun (w2 : World) (hm : Mods [] w w2) => lgRoom_any (h.calm hm).own hF (h.calm hm).lg hz0 hz1)
  have cLf := Lib.hid (fun (w2 : World) (hm : Mods [] w w2) => lgLeft_any (h.calm hm).lg hL)
  obtain ⟨rl, hrl⟩ : ∃ rl, (recL us).length = rl := ⟨_, rfl⟩
  have HRL := Lib.hid hrl
  obtain ⟨rm, hrm⟩ : ∃ rm, z - 38 = rm := ⟨_, rfl⟩
  rw [hrm] at he cRm
  obtain ⟨lf, hlf⟩ : ∃ lf, L.count - L.have_ = lf := ⟨_, rfl⟩
  rw [hlf] at cLf
  have hfl : full = true ↔ lf = 0 := by rw [hfull, decide_eq_true_iff]; omega
  obtain ⟨rE, hrE⟩ : ∃ rE, recE us = rE := ⟨_, rfl⟩
  unfold badE at he
  rw [hlen, hrE, hrl] at he
  rw [hrE] at cT
  clear h1 h2 h3 h4 h hF hr hrl hrm hlf hd hfull
  by_cases g0 : len = 0
  · rw [if_pos g0] at he
    subst he g0
    have hle0 : ((0 : Nat) : Int) = 0 := rfl
    go_enter Tryz.func53, Tryz.ntmps53
    go_wp2_with (go_at_call 110; refine cT.out.mono ?_; rintro e w1 ⟨t, rfl, HT, HM1⟩)
    go_ret
    exact ⟨rfl, HM1⟩
  · rw [if_neg g0] at he
    have hle0 : ¬ (len : Int) = 0 := by omega
    by_cases g1 : rE = 0
    · subst g1
      rw [if_neg (by simp)] at he
      have cT := Lib.hid (cT.out.mono (R' := fun e w' => ∃ t, e = .returned (.tuple #[.string t, .int .i64 0]) ∧ Hid (t.size = rl) ∧ Hid (Mods [] w w')) fun e w' ⟨t, k1, k2, k3⟩ => ⟨t, k1, Lib.hid (by rw [k2.out rfl, bA_size, HRL.out]), k3⟩)
      by_cases g2 : rm < rl
      · rw [if_pos g2] at he
        subst he
        have hrlm : (rm : Int) < (rl : Int) := by omega
        go_enter Tryz.func53, Tryz.ntmps53
        go_wp2_with (first
          | (go_at_call 56; refine (cRm.out _ HM1.out).mono ?_; rintro e w2 ⟨rfl, HM2⟩; have hts : t.size = rl := HT.out)
          | (go_at_call 110; refine cT.out.mono ?_; rintro e w1 ⟨t, rfl, HT, HM1⟩; have hts : t.size = rl := HT.out))
        go_ret
        exact ⟨rfl, Lib.hid (HM1.out.trans HM2.out (by simp))⟩
      · rw [if_neg g2] at he
        have hrlm : ¬ (rm : Int) < (rl : Int) := by omega
        have hf : full = true := by
          cases hh : full
          · rw [hh] at he
            exact absurd he.symm hen
          · rfl
        have hlf := hfl.1 hf
        subst hf hlf
        rw [if_pos rfl] at he
        subst he
        have hle1 : ((0 : Nat) : Int) = 0 := rfl
        go_enter Tryz.func53, Tryz.ntmps53
        go_wp2_with (first
          | (go_at_call 55; refine (cLf.out _ (HM1.out.trans HM2.out (by simp))).mono ?_; rintro e w3 ⟨rfl, HM3⟩)
          | (go_at_call 56; refine (cRm.out _ HM1.out).mono ?_; rintro e w2 ⟨rfl, HM2⟩; have hts : t.size = rl := HT.out)
          | (go_at_call 110; refine cT.out.mono ?_; rintro e w1 ⟨t, rfl, HT, HM1⟩; have hts : t.size = rl := HT.out))
        go_ret
        exact ⟨rfl, Lib.hid ((HM1.out.trans HM2.out (by simp)).trans HM3.out (by simp))⟩
    · rw [if_pos g1] at he
      subst he
      have g1' : ¬ (rE : Int) = 0 := by omega
      go_enter Tryz.func53, Tryz.ntmps53
      go_wp2_with (go_at_call 110; refine cT.out.mono ?_; rintro e w1 ⟨t, rfl, HT, HM1⟩)
      go_ret
      exact ⟨rfl, HM1⟩
end
end Go.Proofs.YtnpfhfgegjocoaaGreat
/- WalPlays: its argument: acts, each with updates in a slice of their own. -/
namespace Go.Proofs.YtnpfhfgegjocoaaGreat
open Go.ChangeShapes Go.WideShapes Go.ChangeAt Go.RowKit

theorem structs_q {H : Type} {enc : TypeId × Value → H} {P : Program} {W : World} {t e : TypeId} {fuel : Nat} {c : Value} {x : DataW H × List MemPlace} {α : Type} [Inhabited α] (k : Nat) (hk0 : 0 < k) (f : α → List Value) (Q : α → Prop) (hf : ∀ a, (f a).length = k) (ht : P.underlying t = some (.slice e)) (ce : P.cellsOf e = k)
    (hmk : ∀ (n : Nat) (cs : List Value) (y : DataW H × List MemPlace), DataW.trod enc P W 0 (fun _ => true) true n e cs = some y → cs.length = k → ∃ a : α, cs = f a ∧ Q a)
    (hfu : DataW.trod enc P W 0 (fun _ => true) true fuel t [c] = some x) :
    ∃ (A : Option Addr) (len cap : Nat) (zs : List α), c = .slice A len cap ∧ Row W A (zs.flatMap f) ∧ zs.length = len ∧ len ≤ cap ∧ cap ≤ maxLen ∧ ∀ z ∈ zs, Q z := by
  rcases Deep.open_slice ht hfu with ⟨hcs, hx⟩ | ⟨a, len, cap, m, n, D, Pl, hcs, _, hl, hm, hmm, hx, hcell⟩
  · injection hcs with hcs _
    subst hcs
    exact ⟨none, 0, 0, [], rfl, .inl rfl, rfl, Nat.le_refl _, Nat.zero_le _, fun z hz => by cases hz⟩
  · injection hcs with hcs _
    subst hcs
    simp only [if_true] at hmm
    have hex : ∀ i, ∃ z : α, i < m → (∀ j, j < k → W.cell? ((a.add (i * k)).add j) = (f z)[j]?) ∧ Q z := by
      intro i
      by_cases hi : i < m
      · obtain ⟨cs', h1, h2⟩ := hcell i hi
        rw [ce] at h1
        obtain ⟨_, hlen, hc⟩ := World.cells?_some h1
        obtain ⟨z, rfl, hq⟩ := hmk _ _ _ h2 hlen
        exact ⟨z, fun _ => ⟨hc, hq⟩⟩
      · exact ⟨default, fun h => absurd h hi⟩
    obtain ⟨F, hF⟩ := Classical.axiomOfChoice hex
    refine ⟨some a, len, cap, (List.range len).map F, rfl, ?_, by simp, hl, hm, ?_⟩
    · rcases Nat.eq_zero_or_pos len with h0 | h0
      · subst h0; exact .inl rfl
      · obtain ⟨b, o, s⟩ := a
        cases s with
        | some s =>
          have h1 := (hF 0 (by omega)).1 0 hk0
          have h2 : ((f (F 0))[0]?).isSome = true := by rw [List.getElem?_eq_getElem (by rw [hf]; exact hk0)]; rfl
          rw [← h1] at h2
          simp [World.cell?, Addr.add] at h2
          split at h2 <;> simp_all
        | none =>
          refine .inr ⟨b, o, rfl, fun i u hi => ?_⟩
          have hil : i < len * k := by
            have := (List.getElem?_eq_some_iff.1 hi).1
            rw [flat_length f hf] at this
            simpa using this
          have hdiv : i / k < len := Nat.div_lt_of_lt_mul (by rw [Nat.mul_comm]; exact hil)
          have hmod : i % k < k := Nat.mod_lt _ hk0
          have hd := Nat.div_add_mod i k
          have hg := flat_get f hf (l := (List.range len).map F) (i := i / k) (a := F (i / k)) (j := i % k) (by rw [List.getElem?_map, List.getElem?_range hdiv]; rfl) hmod
          have h1 := (hF (i / k) (by omega)).1 (i % k) hmod
          rw [addr_add, addr_add] at h1
          rw [Nat.mul_comm] at hd
          rw [hd] at hg
          rw [hg] at hi
          rw [hi, Nat.add_assoc, hd] at h1
          exact h1
    · intro z hz
      obtain ⟨i, hi, rfl⟩ := List.mem_map.1 hz
      have hil := List.mem_range.1 hi
      exact (hF i (by omega)).2

structure Act13 where
  do_ : Int
  A : Option Addr
  len : Nat
  cap : Nat
  us : List UpdE
  c0 : Int
  c1 : Int
  fA : Option Addr
  fl : Nat
  fc : Nat
def acells13 (a : Act13) : List Value := [.int .i64 a.do_, .slice a.A a.len a.cap, .int .u8 a.c0, .int .u8 a.c1, .slice a.fA a.fl a.fc]
def aRow13 (l : List Act13) : List Value := l.flatMap acells13
theorem acells13_len (a : Act13) : (acells13 a).length = 5 := rfl
instance : Inhabited Act13 := ⟨⟨0, none, 0, 0, [], 0, 0, none, 0, 0⟩⟩
instance : Inhabited UpdE := ⟨⟨0, ⟨#[]⟩, ⟨#[]⟩, 0⟩⟩
/-- What the form says of an act. -/
structure ActOk (W : World) (a : Act13) : Prop where
  row : Row W a.A (uRow a.us)
  len : a.us.length = a.len
  cap : a.len ≤ a.cap
  ok : ∀ u ∈ a.us, u.delta < 18446744073709551616 ∧ u.kind < 256
theorem cellsAct13 : Tryz.prog.cellsOf 120 = 5 := by kernel_rfl
theorem cellsInt13 : Tryz.prog.cellsOf 3 = 1 := by kernel_rfl
theorem cellsLs13 : Tryz.prog.cellsOf 117 = 1 := by kernel_rfl
theorem cellsArr13 : Tryz.prog.cellsOf 118 = 2 := by kernel_rfl
theorem cellsU8s13 : Tryz.prog.cellsOf 22 = 1 := by kernel_rfl
theorem cellsU8T : Tryz.prog.cellsOf 5 = 1 := by kernel_rfl
theorem cellsStrT : Tryz.prog.cellsOf 9 = 1 := by kernel_rfl
theorem cellsU64T : Tryz.prog.cellsOf 42 = 1 := by kernel_rfl
theorem cellsUpdL : Tryz.prog.cellsOf 224 = 4 := by kernel_rfl
set_option maxRecDepth 100000 in
theorem updL_mk {H : Type} {enc : TypeId × Value → H} {W : World} {n : Nat} {cs : List Value} {y : DataW H × List MemPlace} (h : DataW.trod enc Tryz.prog W 0 (fun _ => true) true n 224 cs = some y) (hl : cs.length = 4) : ∃ u : UpdE, cs = updC u ∧ (u.delta < 18446744073709551616 ∧ u.kind < 256) := by
  obtain ⟨xs, m, _, hy, _, hxl, hf⟩ := DataW.trod_struct Tryz.underlying224 h
  match cs, hl with
  | [c0, c1, c2, c3], _ =>
    match xs, hxl with
    | [y0, y1, y2, y3], _ =>
      have g0 := hf 0 _ rfl
      have g1 := hf 1 _ rfl
      have g2 := hf 2 _ rfl
      have g3 := hf 3 _ rfl
      simp [cellsU8T, cellsU64T, cellsStrT] at g0 g1 g2 g3
      obtain ⟨a0, e0, f0, w0⟩ := DataW.trod_int Tryz.underlying5 g0
      obtain ⟨s1, e1, f1, _⟩ := DataW.trod_string Tryz.underlying9 g1
      obtain ⟨s2, e2, f2, _⟩ := DataW.trod_string Tryz.underlying9 g2
      obtain ⟨a3, e3, f3, w3⟩ := DataW.trod_int Tryz.underlying42 g3
      have b0 := bounds_u8 w0
      have b3 := bounds_u64 w3
      obtain ⟨a0, rfl⟩ := Int.eq_ofNat_of_zero_le b0.1
      obtain ⟨a3, rfl⟩ := Int.eq_ofNat_of_zero_le b3.1
      simp at e0 e1 e2 e3
      subst e0 e1 e2 e3
      exact ⟨⟨a0, s1, s2, a3⟩, rfl, show a3 < 18446744073709551616 by omega, show a0 < 256 by omega⟩
set_option maxRecDepth 100000 in
theorem arr2b_trod {H : Type} {enc : TypeId × Value → H} {W : World} {n : Nat} {c0 c1 : Value} {y : DataW H × List MemPlace} (h : DataW.trod enc Tryz.prog W 0 (fun _ => true) true n 118 [c0, c1] = some y) :
    ∃ a b : Int, [c0, c1] = [.int .u8 a, .int .u8 b] := by
  obtain ⟨xs, m, rfl, hx, _, hl, hg⟩ := DataW.trod_array Tryz.underlying118 h
  have g0 := hg 0 (by omega)
  have g1 := hg 1 (by omega)
  rw [cellsU8T] at g0 g1
  obtain ⟨y0, y1, rfl⟩ : ∃ y0 y1, xs = [y0, y1] := by
    match xs, hl with
    | [y0, y1], _ => exact ⟨y0, y1, rfl⟩
  simp at g0 g1
  obtain ⟨a, ea, rfl, wa⟩ := DataW.trod_int Tryz.underlying5 g0
  obtain ⟨b, eb, rfl, wb⟩ := DataW.trod_int Tryz.underlying5 g1
  simp at ea eb
  subst ea eb
  exact ⟨a, b, rfl⟩
set_option maxRecDepth 100000 in
theorem act13_mk {H : Type} {enc : TypeId × Value → H} {W : World} {n : Nat} {cs : List Value} {y : DataW H × List MemPlace} (h : DataW.trod enc Tryz.prog W 0 (fun _ => true) true n 120 cs = some y) (hl : cs.length = 5) : ∃ a : Act13, cs = acells13 a ∧ ActOk W a := by
  obtain ⟨xs, m, _, hy, _, hxl, hf⟩ := DataW.trod_struct Tryz.underlying120 h
  match cs, hl with
  | [c0, c1, c2, c3, c4], _ =>
    match xs, hxl with
    | [y0, y1, y2, y3], _ =>
      have g0 := hf 0 _ rfl
      have g1 := hf 1 _ rfl
      have g2 := hf 2 _ rfl
      have g3 := hf 3 _ rfl
      simp [cellsInt13, cellsLs13, cellsArr13, cellsU8s13] at g0 g1 g2 g3
      obtain ⟨a0, e0, f0, w0⟩ := DataW.trod_int Tryz.underlying3 g0
      obtain ⟨A, len, cap, us, e1, r1, r2, r3, r4, r5⟩ := structs_q 4 (by omega) updC (fun u => u.delta < 18446744073709551616 ∧ u.kind < 256) updC_len Tryz.underlying117 cellsUpdL (fun _ _ _ h hl => updL_mk h hl) g1
      obtain ⟨a, b, e2⟩ := arr2b_trod g2
      have e3 : ∃ fA fl fc, c4 = .slice fA fl fc := by
        rcases Deep.open_slice Tryz.underlying22 g3 with ⟨hcs, _⟩ | ⟨a, len, cap, m, n, D, Pl, hcs, _⟩
        · injection hcs with hcs _
          exact ⟨_, _, _, hcs⟩
        · injection hcs with hcs _
          exact ⟨_, _, _, hcs⟩
      obtain ⟨fA, fl, fc, e3⟩ := e3
      simp at e0 e2
      obtain ⟨e2, e4⟩ := e2
      subst e0 e1 e2 e3 e4
      exact ⟨⟨a0, A, len, cap, us, a, b, fA, fl, fc⟩, rfl, r1, r2, r3, r5⟩
set_option maxRecDepth 100000 in
theorem acts13_open {H : Type} {enc : TypeId × Value → H} {W : World} {base : Nat} {v : Value} {d : DataW H} {p : List MemPlace} (hv : Value.okWide Tryz.prog W .any base 115 v) (hj : DataW.Trod enc Tryz.prog W 0 (fun _ => true) true 115 v d p) :
    ∃ (A : Option Addr) (len cap : Nat) (zs : List Act13), v = .slice A len cap ∧ Row W A (aRow13 zs) ∧ zs.length = len ∧ len ≤ cap ∧ cap ≤ maxLen ∧ ∀ z ∈ zs, ActOk W z := by
  obtain ⟨a0, len, cap, rfl⟩ := okWide_slice Tryz.underlying115 hv
  obtain ⟨fuel, hfu⟩ := hj
  exact structs_q (c := .slice a0 len cap) 5 (by omega) acells13 (fun a => ActOk W a) acells13_len Tryz.underlying115 cellsAct13 (fun _ _ _ h hl => act13_mk h hl) hfu
theorem aRow13_at {w : World} {A : Option Addr} {R : List Act13} (h : Row w A (aRow13 R)) {i : Nat} {x : Act13} (hx : R[i]? = some x) : ∃ b off, A = some ⟨b, off, none⟩ ∧ w.cell? ⟨b, off + i * 5, none⟩ = some (.int .i64 x.do_) ∧ w.cell? ⟨b, off + i * 5 + 1, none⟩ = some (.slice x.A x.len x.cap) ∧
    w.cell? ⟨b, off + i * 5 + 2, none⟩ = some (.int .u8 x.c0) ∧ w.cell? ⟨b, off + i * 5 + 3, none⟩ = some (.int .u8 x.c1) ∧ w.cell? ⟨b, off + i * 5 + 4, none⟩ = some (.slice x.fA x.fl x.fc) := by
  have g := fun (j : Nat) (hj : j < 5) => flat_get acells13 acells13_len hx hj
  rcases h with h | ⟨b, off, h1, h2⟩
  · have := g 0 (by omega)
    rw [show R.flatMap acells13 = aRow13 R from rfl, h] at this
    simp [acells13] at this
  · refine ⟨b, off, h1, ?_, ?_, ?_, ?_, ?_⟩
    · exact h2 (i * 5) _ ((g 0 (by omega)).trans rfl)
    · rw [Nat.add_assoc]; exact h2 (i * 5 + 1) _ ((g 1 (by omega)).trans rfl)
    · rw [Nat.add_assoc]; exact h2 (i * 5 + 2) _ ((g 2 (by omega)).trans rfl)
    · rw [Nat.add_assoc]; exact h2 (i * 5 + 3) _ ((g 3 (by omega)).trans rfl)
    · rw [Nat.add_assoc]; exact h2 (i * 5 + 4) _ ((g 4 (by omega)).trans rfl)
end Go.Proofs.YtnpfhfgegjocoaaGreat
/- WalPlays: the state between the acts. -/
namespace Go.Proofs.YtnpfhfgegjocoaaGreat
open Go.RowKit

theorem run_clip (P : Program) (t e : TypeId) (i : TypeInfo) (A : Option Addr) (n cap : Nat) (W : World) (ht : P.underlying t = some (.slice e)) (hi : P.info? e = some i) (h1 : n ≤ cap) :
    (Instr.slice t (.slice A n cap) none (some (.int .i64 (n : Nat))) (some (.int .i64 (n : Nat)))).run P W = .ok (.slice A n n) W := by
  have hb : (0 : Int) ≤ (n : Int) ∧ (n : Int) ≤ (cap : Int) := ⟨by omega, by omega⟩
  simp [Instr.slice, run_underlying ht, Instr.sliceBounds, Instr.sliceBound, asIntOf, hb, h1, go_sem, sizeOf, typeInfo, hi]
theorem RecsIn.each {rd : Nat → ByteArray} : ∀ {rs : List (List UpdE)} {L : LogE}, RecsIn rd L rs → ∀ us ∈ rs, us ≠ [] ∧ us.length ≤ 1000
  | [], _, _, _, h => by cases h
  | v :: rs, L, ⟨_, _, h1, h2, _, _, _, h3⟩, us, h => by
    rcases List.mem_cons.1 h with rfl | h
    · exact ⟨h1, h2⟩
    · exact RecsIn.each h3 us h
theorem flat_len : ∀ {rs : List (List UpdE)}, (∀ us ∈ rs, us.length ≤ 1000) → (flatU rs).length ≤ 1000 * rs.length
  | [], _ => by simp [flatU]
  | v :: rs, h => by
    have h1 := h v (by simp)
    have h2 := flat_len (rs := rs) fun us hu => h us (List.mem_cons_of_mem _ hu)
    unfold flatU at h2 ⊢
    rw [List.flatten_cons, List.length_append, List.length_cons]
    omega
theorem flat_snoc (rs : List (List UpdE)) (us : List UpdE) : flatU (rs ++ [us]) = flatU rs ++ us := by unfold flatU; simp
theorem mRepairs_mir {w : World} {b p tb mb q : Nat} (h : IsMir w b p tb mb q) : Calls Tryz.prog 38 #[.pointer (some ⟨b, 0, none⟩)] w fun e w' => e = .returned (.int .i64 (q : Nat)) ∧ w = w' := by
  have q0 : w.cell? ⟨b, 3, none⟩ = some (.int .i64 (q : Nat)) := Blk.cell h (i := 3) rfl
  clear h
  go_enter Tryz.func38, Tryz.ntmps38
  go_wp2_with fail
  go_ret
  exact ⟨rfl, rfl⟩
/-- Between two acts. -/
structure PlaysIn (W w : World) (x : Nat → Nat) (db sk b0 b p tk lb : Nat) (F : List Nat) (M : Mi) (rd : Nat → ByteArray) (L0 L : LogE) (rs : List (List UpdE)) (A : Option Addr) (c : Nat) : Prop where
  lg : LgIn W w F x b p tk lb M L
  st : WSt c M rd
  ls : LSt rd L0 L rs
  dv : Blk w db 50 [.pointer (some ⟨x 0, 0, none⟩), .pointer (some ⟨x 1, 0, none⟩)]
  dvm : db ∈ F ∧ db ≠ lb
  sm : Blk w sk 172 sumRow
  smm : sk ∈ F ∧ sk ≠ lb
  reps : M.reps = 0
  row : Row w A (uRow (flatU rs))
  rmem : ∀ a, A = some a → a.block ∈ F ∧ a.block ≠ lb
  first : b0 = b ∨ ∃ G p0 M0, Rest w b0 p0 G x M0 ∧ M0.reps = 0 ∧ ∀ g ∈ G, g ∈ F ∧ g ≠ lb
section
variable {W w w' : World} {x : Nat → Nat} {db sk b0 b p tk lb : Nat} {F : List Nat} {M M' : Mi} {rd rd' : Nat → ByteArray} {L0 L L0' L' : LogE} {rs rs' : List (List UpdE)} {A A' : Option Addr} {c c' : Nat}
theorem PlaysIn.reps_any (h : PlaysIn W w x db sk b0 b p tk lb F M rd L0 L rs A c) : Calls Tryz.prog 38 #[.pointer (some ⟨b0, 0, none⟩)] w fun e w' => e = .returned (.int .i64 0) ∧ w = w' := by
  rcases h.first with rfl | ⟨G, p0, M0, h1, h2, _⟩
  · have := oRepairs h.lg.own
    rw [h.reps] at this
    exact this
  · obtain ⟨tb, mb, h3⟩ := h1.mir
    rw [h2] at h3
    exact mRepairs_mir h3
/-- Nothing that counts turned. -/
theorem PlaysIn.calm (h : PlaysIn W w x db sk b0 b p tk lb F M rd L0 L rs A c) (hm : Mods [] w w') : PlaysIn W w' x db sk b0 b p tk lb F M rd L0 L rs A c :=
  ⟨h.lg.calm hm, h.st, h.ls, h.dv.keep hm (by simp), h.dvm, h.sm.keep hm (by simp), h.smm, h.reps, h.row.keep0 hm, h.rmem, by
    rcases h.first with e | ⟨G, p0, M0, h1, h2, h3⟩
    · exact .inl e
    · exact .inr ⟨G, p0, M0, h1.keep (Minds.of hm) (fun g hg => (h3 g hg).1), h2, h3⟩⟩
/-- Only the log, the devices and the mirror's own turned. -/
theorem PlaysIn.turn (h : PlaysIn W w x db sk b0 b p tk lb F M rd L0 L rs A c) (hl : LgIn W w' F x b p tk lb M' L') (hm : ∀ G, (∀ k ∈ G, k ∈ F ∧ k ≠ lb) → Minds G w w') (hs : WSt c' M' rd') (hls : LSt rd' L0' L' rs') (hr : M'.reps = 0) {xs : List UpdE} (hx : flatU rs' = xs) (hA : Row w' A' (uRow xs)) (hA2 : ∀ a, A' = some a → a.block ∈ F ∧ a.block ≠ lb) :
    PlaysIn W w' x db sk b0 b p tk lb F M' rd' L0' L' rs' A' c' :=
  ⟨hl, hs, hls, (hm [db] (fun k hk => by rw [List.mem_singleton.1 hk]; exact h.dvm)).blk h.dv (by simp), h.dvm, (hm [sk] (fun k hk => by rw [List.mem_singleton.1 hk]; exact h.smm)).blk h.sm (by simp), h.smm, hr, by rw [hx]; exact hA, hA2, by
    rcases h.first with e | ⟨G, p0, M0, h1, h2, h3⟩
    · exact .inl e
    · exact .inr ⟨G, p0, M0, h1.keep (hm G h3) (fun g hg => hg), h2, h3⟩⟩
/-- A block more is minded. -/
theorem PlaysIn.more {N : List Nat} (h : PlaysIn W w x db sk b0 b p tk lb F M rd L0 L rs A c) (hm : Mods [] w w') (hN : ∀ g ∈ N, w.heap.size ≤ g ∧ g < w'.heap.size) : PlaysIn W w' x db sk b0 b p tk lb (N ++ F) M rd L0 L rs A c := by
  have h0 := h.calm hm
  exact ⟨h.lg.protect hm hN, h0.st, h0.ls, h0.dv, ⟨List.mem_append_right _ h0.dvm.1, h0.dvm.2⟩, h0.sm, ⟨List.mem_append_right _ h0.smm.1, h0.smm.2⟩, h0.reps, h0.row, fun a ha => ⟨List.mem_append_right _ (h0.rmem a ha).1, (h0.rmem a ha).2⟩, by
    rcases h0.first with e | ⟨G, p0, M0, h1, h2, h3⟩
    · exact .inl e
    · exact .inr ⟨G, p0, M0, h1, h2, fun g hg => ⟨List.mem_append_right _ (h3 g hg).1, (h3 g hg).2⟩⟩⟩
end
end Go.Proofs.YtnpfhfgegjocoaaGreat
namespace Go.Proofs.YtnpfhfgegjocoaaGreat
open Go.RowKit

theorem row_of_ownsW {w : World} {base s n : Nat} {e : TypeId} {A : Option Addr} {cap : Nat} {xs : List Value} (h : w.ownsRow base e s (.slice A n cap) n xs) : Row w A xs := by
  have h0 := h
  rcases h.2 with ⟨_, h2⟩ | ⟨g, c, cur, hv, _⟩
  · left
    subst h2
    exact List.eq_nil_of_length_eq_zero (by simpa using h.1)
  · injection hv with h1
    subst h1
    refine .inr ⟨g, 0, rfl, fun j u hj => ?_⟩
    have := h0.cells (g := g) rfl j u hj
    rw [addr_add] at this
    exact this
theorem recE_zero : ∀ {us : List UpdE}, recE us = 0 → ∀ u ∈ us, updMay u = 0
  | [], _, _, h => by cases h
  | v :: us, h, u, hu => by
    unfold recE at h
    by_cases h1 : updMay v = 0
    · rw [if_pos h1] at h
      rcases List.mem_cons.1 hu with rfl | hu
      · exact h1
      · exact recE_zero h u hu
    · rw [if_neg h1] at h
      exact absurd h h1
theorem cutUs_d {us : List UpdE} (h : ∀ u ∈ us, u.delta < 18446744073709551616 ∧ u.kind < 256) : ∀ u ∈ cutUs us, u.delta < 18446744073709551616 := fun u hu => by
  unfold cutUs at hu
  obtain ⟨v, hv, rfl⟩ := List.mem_map.1 hu
  exact (h v (List.mem_of_mem_take hv)).1
theorem cutUs_len (us : List UpdE) : (cutUs us).length ≤ 5 := by
  unfold cutUs
  rw [List.length_map, List.length_take]
  omega
theorem updsE_zero {us : List UpdE} (h : updsE us = 0) : us ≠ [] ∧ recE us = 0 := by
  unfold updsE at h
  by_cases h1 : us = []
  · rw [if_pos h1] at h; cases h
  · rw [if_neg h1] at h; exact ⟨h1, h⟩
theorem badE_a {us : List UpdE} {f : Bool} {rm : Nat} (h : updsE us ≠ 0) : badE us f rm = updsE us := by
  unfold updsE at h ⊢
  unfold badE
  by_cases h1 : us = []
  · subst h1; simp
  · rw [if_neg h1] at h ⊢
    rw [if_neg (by simpa using h1), if_pos h]
theorem badE_b {us : List UpdE} {f : Bool} {rm : Nat} (h : updsE us = 0) (h2 : rm < (recL us).length) : badE us f rm = 20 := by
  obtain ⟨h1, h3⟩ := updsE_zero h
  unfold badE
  rw [if_neg (by simpa using h1), if_neg (by simpa using h3), if_pos h2]
theorem badE_c {us : List UpdE} {rm : Nat} (h : updsE us = 0) (h2 : ¬ rm < (recL us).length) : badE us true rm = 11 := by
  obtain ⟨h1, h3⟩ := updsE_zero h
  unfold badE
  rw [if_neg (by simpa using h1), if_neg (by simpa using h3), if_neg h2, if_pos rfl]
section
variable {W w w' : World} {x : Nat → Nat} {db sk b0 b p tk lb : Nat} {F F2 : List Nat} {M M' : Mi} {rd rd' : Nat → ByteArray} {L0 L L0' L' : LogE} {rs rs' : List (List UpdE)} {A A' : Option Addr} {c c' : Nat}
theorem PlaysIn.turn2 (h : PlaysIn W w x db sk b0 b p tk lb F M rd L0 L rs A c) (hF : ∀ g ∈ F, g ∈ F2) (hl : LgIn W w' F2 x b p tk lb M' L') (hm : ∀ G, (∀ k ∈ G, k ∈ F ∧ k ≠ lb) → Minds G w w') (hs : WSt c' M' rd') (hls : LSt rd' L0' L' rs') (hr : M'.reps = 0) (hA : Row w' A' (uRow (flatU rs'))) (hA2 : ∀ a, A' = some a → a.block ∈ F2 ∧ a.block ≠ lb) :
    PlaysIn W w' x db sk b0 b p tk lb F2 M' rd' L0' L' rs' A' c' :=
  ⟨hl, hs, hls, (hm [db] (fun k hk => by rw [List.mem_singleton.1 hk]; exact h.dvm)).blk h.dv (by simp), ⟨hF _ h.dvm.1, h.dvm.2⟩, (hm [sk] (fun k hk => by rw [List.mem_singleton.1 hk]; exact h.smm)).blk h.sm (by simp), ⟨hF _ h.smm.1, h.smm.2⟩, hr, hA, hA2, by
    rcases h.first with e | ⟨G, p0, M0, h1, h2, h3⟩
    · exact .inl e
    · exact .inr ⟨G, p0, M0, h1.keep (hm G h3) (fun g hg => hg), h2, fun g hg => ⟨hF _ (h3 g hg).1, (h3 g hg).2⟩⟩⟩
/-- The row of what is known, behind a turn of the log alone. -/
theorem PlaysIn.rowBy (h : PlaysIn W w x db sk b0 b p tk lb F M rd L0 L rs A c) (hm : ∀ G, (∀ k ∈ G, k ∈ F ∧ k ≠ lb) → Minds G w w') : Row w' A (uRow (flatU rs)) := by
  cases hA : A with
  | none =>
    have h0 := h.row
    rw [hA] at h0
    rcases h0 with e | ⟨g, o, e, _⟩
    · exact .inl e
    · cases e
  | some a =>
    have h0 := h.row
    rw [hA] at h0
    refine (hm [a.block] (fun k hk => by rw [List.mem_singleton.1 hk]; exact h.rmem a hA)).row h0 (fun a' ha => ?_)
    injection ha with ha
    rw [← ha]
    simp
/-- The mirror and the log anew. -/
theorem PlaysIn.reopen (h : PlaysIn W w x db sk b0 b p tk lb F M rd L0 L rs A c) {G : List Nat} {b4 p4 tk2 lb2 : Nat} (hN : Minds F w w') (hR : Rest w' b p G x M) (hl : LgIn W w' (tk2 :: lb2 :: (G ++ F)) x b4 p4 tk2 lb2 (Go.Proofs.YtnpfhfgegjocoaaGreat.openM M) L) (hne : ∀ g ∈ G ++ F, g ≠ lb2) (hc : c ≤ c') :
    PlaysIn W w' x db sk b0 b4 p4 tk2 lb2 (tk2 :: lb2 :: (G ++ F)) (Go.Proofs.YtnpfhfgegjocoaaGreat.openM M) rd L0 L rs A c' := by
  have hi : ∀ g ∈ F, g ∈ tk2 :: lb2 :: (G ++ F) := fun g hg => List.mem_cons_of_mem _ (List.mem_cons_of_mem _ (List.mem_append_right _ hg))
  have hn : ∀ g ∈ F, g ≠ lb2 := fun g hg => hne g (List.mem_append_right _ hg)
  refine ⟨hl, h.st.openM.mono hc, h.ls, hN.blk h.dv h.dvm.1, ⟨hi _ h.dvm.1, hn _ h.dvm.1⟩, hN.blk h.sm h.smm.1, ⟨hi _ h.smm.1, hn _ h.smm.1⟩, rfl, hN.row h.row (fun a ha => (h.rmem a ha).1), fun a ha => ⟨hi _ (h.rmem a ha).1, hn _ (h.rmem a ha).1⟩, .inr ?_⟩
  rcases h.first with rfl | ⟨G0, p0, M0, h1, h2, h3⟩
  · exact ⟨G, p, M, hR, h.reps, fun g hg => ⟨List.mem_cons_of_mem _ (List.mem_cons_of_mem _ (List.mem_append_left _ hg)), hne g (List.mem_append_left _ hg)⟩⟩
  · exact ⟨G0, p0, M0, h1.keep hN (fun g hg => (h3 g hg).1), h2, fun g hg => ⟨hi _ (h3 g hg).1, hn _ (h3 g hg).1⟩⟩
end
end Go.Proofs.YtnpfhfgegjocoaaGreat
