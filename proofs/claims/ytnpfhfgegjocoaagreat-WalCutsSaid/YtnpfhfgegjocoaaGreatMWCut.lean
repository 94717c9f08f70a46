/- WalCuts: whatever the numbers are, the law answers true. No condition but the form's own. -/
import Derived.Test.YtnpfhfgegjocoaaGreatMI
import Derived.Test.YtnpfhfgegjocoaaGreatMWalo
import Derived.Test.YtnpfhfgegjocoaaGreatMA
import Derived.Test.YtnpfhfgegjocoaaGreatMG
import Derived.OpenShut
import Derived.Outline
/- dev: Crash, of a device of which nothing waits. -/
namespace Go.Proofs.YtnpfhfgegjocoaaGreat
open Go.RowKit

set_option maxRecDepth 100000 in
set_option maxHeartbeats 1600000 in
theorem dCrash0 {W : World} {b : Nat} {fp : List Nat} {D : Dev} (h : IsDev W b fp D) (hc : D.cache = []) (ho : D.off = false) (hf : D.fuse = 0) (v : Value) :
    Calls Tryz.prog 62 #[.pointer (some ⟨b, 0, none⟩), v] W fun e w' => e = .returned (.tuple #[]) ∧ Hid (∃ fp', DevTo W w' b fp fp' D) := by
  obtain ⟨mb, bb, cv, c0, c1, c2, hin, rfl, hnd⟩ := h
  obtain ⟨A, cap, hcv, _⟩ := owns_shapeD hin.cache
  rw [hc] at hcv
  subst hcv
  have hn := hnd
  simp only [List.nodup_cons, List.mem_cons, Option.mem_toList, not_or] at hn
  obtain ⟨⟨n1, n2, n3⟩, ⟨n4, n5⟩, n6, _⟩ := hn
  have HIN := Lib.hid hin
  have HC := Lib.hid (And.intro hc (And.intro ho hf))
  have HN := Lib.hid (And.intro n1 (And.intro n2 n4))
  have d4 := hin.dev.cell (i := 4) rfl
  have f4 := hin.dev.free 4
  have f5 := hin.dev.free 5
  have f9 := hin.dev.free 9
  have d5 := hin.dev.cell (i := 5) rfl
  have d9 := hin.dev.cell (i := 9) rfl
  clear hin hc ho hf n1 n2 n3 n4 n5 n6 hnd
  go_enter Tryz.func62, Tryz.ntmps62
  go_wp2_with fail
  go_loopw [13] (fun iv wr => iv = .int .i64 0 ∧ wr = W) (fun _ _ => 0)
  case atStart => exact ⟨rfl, rfl⟩
  case round =>
    obtain ⟨rfl, rfl⟩ := hrel
    go_wp2_with fail
    go_end0
    have e : (((devCells D mb bb (.slice A 0 cap) c0 c1 c2).set 4 (.slice none 0 0)).set 9 (.bool false)).set 5 (.int .i64 0) = devCells D mb bb (.slice none 0 0) c0 c1 c2 := by
      unfold devCells
      rw [HC.out.2.1, HC.out.2.2]
      rfl
    have hB := ((HIN.out.dev.set 4 (.slice none 0 0)).set 9 (.bool false)).set 5 (.int .i64 0)
    rw [List.length_nil, e] at hB
    have hm : Mods [b] wr (((wr.setCell ⟨b, 4, none⟩ (.slice none 0 0)).setCell ⟨b, 9, none⟩ (.bool false)).setCell ⟨b, 5, none⟩ (.int .i64 0)) := (((Mods.refl _ _).setCell (by simp) _).setCell (by simp) _).setCell (by simp) _
    obtain ⟨n1, n2, n4⟩ := HN.out
    refine ⟨rfl, Lib.hid ⟨[b, mb, bb], ⟨mb, bb, .slice none 0 0, c0, c1, c2, ⟨HIN.out.ok, HIN.out.fuse, HIN.out.lose, HIN.out.stray, hB, HIN.out.media.keep hm (by simpa using fun e => n1 e.symm), HIN.out.bad.keep hm (by simpa using fun e => n2 e.symm), ?_⟩, rfl, ?_⟩, fun k hk => .inl ?_, hm.mono (by simp)⟩⟩
    · rw [HC.out.1]
      exact World.ownsRow_nil _ _ _ _
    · simp [n1, n2, n4]
    · simp only [List.mem_cons, List.not_mem_nil, or_false] at hk
      simp only [List.mem_cons]
      rcases hk with h | h | h
      · exact .inl h
      · exact .inr (.inl h)
      · exact .inr (.inr (.inl h))
/-- Crash, where all was flushed. -/
theorem oCrash {W w : World} {F : List Nat} {x : Nat → Nat} {b p : Nat} {M : Mi} {B z : Nat} (h : OwnM W F w b p x M) (hF : Fine B z 0 M.P) {s : Nat} (hs : s < 2) (v : Value) :
    Calls Tryz.prog 62 #[.pointer (some ⟨x s, 0, none⟩), v] w fun e w' => e = .returned (.tuple #[]) ∧ Hid (OwnM W F w' b p x M) ∧ Hid (Minds F w w') := by
  obtain ⟨tb, mb, gp, fx, hI, hf⟩ := h.ex
  have ho := hF.on s hs
  refine (dCrash0 (hI.pair.dev s hs) (List.eq_nil_of_length_eq_zero (Nat.le_zero.1 ho.few)) ho.off ho.fuse v).mono fun e w' ⟨h1, h2⟩ => ?_
  obtain ⟨fp', h3⟩ := h2.out
  obtain ⟨k1, k2⟩ := h.dev hI hf hs h3 ⟨rfl, rfl⟩
  have e : M.P.setDev s (M.P.dev s) = M.P := by
    unfold Pr.setDev
    congr 1
    funext k
    split
    · rename_i e; rw [e]
    · rfl
  rw [e] at k1
  exact ⟨h1, k1, k2⟩
end Go.Proofs.YtnpfhfgegjocoaaGreat
/- law13: the log over a sound mirror: one update appended; cut; crashed; opened beside another log. -/
namespace Go.Proofs.YtnpfhfgegjocoaaGreat
open Go.RowKit

section
variable {W w w' : World} {F : List Nat} {x : Nat → Nat} {b p tk lb : Nat} {M : Mi} {L0 L : LogE} {rs : List (List UpdE)} {c : Nat} {rd : Nat → ByteArray}
theorem kAppOne (h : LgIn W w F x b p tk lb M L) (hw : WSt c M rd) (hs : LSt rd L0 L rs) (hc : c ≤ 600000) (hh : rs.length < 5) (hn1 : L.next + 1 < 18446744073709551616) (u : UpdE) (hu : u.Ok) :
    Calls Tryz.prog 53 #[.pointer (some ⟨lb, 0, none⟩), .slice (some ⟨w.heap.size, 0, none⟩) 1 1] (w.alloc (.cells (updC u).toArray 113)) fun e w' => ∃ M' rd', e = .returned (.int .i64 0) ∧ Hid (WSt (c + 2) M' rd') ∧ Hid (LSt rd' L0 (L.took [u]) (rs ++ [[u]])) ∧ Hid (LgIn W w' F x b p tk lb M' (L.took [u])) ∧ Hid (M'.reps = M.reps) ∧ Hid (∀ G, (∀ k ∈ G, k ∈ F ∧ k ≠ lb) → Minds G w w') := by
  have hm : Mods [] w (w.alloc (.cells (updC u).toArray 113)) := (Mods.refl _ _).alloc _
  have hl := h.lg.lt
  have hk : ∀ k ∈ [w.heap.size], w.heap.size ≤ k ∧ k < (w.alloc (.cells (updC u).toArray 113)).heap.size := fun k hk => by rw [List.mem_singleton.1 hk]; exact ⟨Nat.le_refl _, by simp⟩
  have hrow : Row (w.alloc (.cells (updC u).toArray 113)) (some ⟨w.heap.size, 0, none⟩) (uRow [u]) := .inr ⟨w.heap.size, 0, rfl, fun i v hi => by
    rw [Nat.zero_add]
    have e : uRow [u] = updC u := by unfold uRow; simp
    rw [e] at hi
    exact (Blk.new w 113 (updC u)).cell hi⟩
  have hlen : (recL [u]).length ≤ 154 := by
    have e : recL [u] = updL u := by unfold recL; simp
    rw [e]
    have := updL_len hu
    omega
  refine (kApp (h.protect (G := [w.heap.size]) hm hk) hw hs hc hh hn1 hrow (us := [u]) (len := 1) rfl (by decide) (by decide) (fun v hv => by rw [List.mem_singleton.1 hv]; exact hu) hlen (fun a ha => by cases ha; exact ⟨by simp, by show w.heap.size ≠ lb; omega⟩)).mono fun e w' ⟨M', rd', h1, h2, h3, h4, h5, h6⟩ => ?_
  exact ⟨M', rd', h1, h2, h3, Lib.hid (h4.out.less (fun k hk => List.mem_append_right _ hk) h.mem), h5, Lib.hid (fun G hG => (Minds.of hm).trans (h6.out G (fun k hk => ⟨List.mem_append_right _ (hG k hk).1, (hG k hk).2⟩)))⟩
/-- The log's own block turned. -/
theorem LgIn.self {L2 : LogE} (h : LgIn W w F x b p tk lb M L) (hm : Mods [lb] w w') (hb : Blk w' lb 214 (lgC b tk L2)) : LgIn W w' F x b p tk lb M L2 :=
  ⟨h.own.aside hm (fun k hk => by rw [List.mem_singleton.1 hk]; exact ⟨h.mem.2, h.old⟩), h.sum.keep hm (by simpa using h.ne), hb, h.mem, h.old, h.ne⟩
theorem kCut (h : LgIn W w F x b p tk lb M L) (hs : LSt rd L0 L rs) (hn : L.next + 5 < 18446744073709551616) :
    Calls Tryz.prog 51 #[.pointer (some ⟨lb, 0, none⟩)] w fun e w' => e = .returned (.tuple #[.int .u64 ((L.next + 5 : Nat) : Nat), .int .u32 (L.chain : Nat), .int .i64 0]) ∧ Hid (LSt rd L.cut L.cut []) ∧ Hid (LgIn W w' F x b p tk lb M L.cut) ∧ Hid (∀ G, (∀ k ∈ G, k ≠ lb) → Minds G w w') := by
  obtain ⟨f1, f2, f3, f4, f5⟩ := hs.facts
  have key := lgCut_any h.lg hs.ok (by rw [f2]; exact hn)
  rw [f2] at key
  refine key.mono fun e w' ⟨h1, h2, h3⟩ => ⟨h1, Lib.hid (hs.cut (by rw [f2]; exact hn)), Lib.hid (h.self h2.out ?_), Lib.hid (fun G hG => ⟨[lb], h2.out, fun k hk hx => by rw [List.mem_singleton.1 hk] at hx; exact hG _ hx rfl⟩)⟩
  have e : L.cut = ⟨L.first, 5, L.next + 5, L.chain, 0⟩ := by unfold LogE.cut; rw [f2]
  rw [e]
  exact h3.out
/-- Open beside other blocks: the log, and all else as it was. -/
theorem kOpenL (h : OwnM W F w b p x M) (hw : WSt c M rd) (hs : LSt rd L0 L rs) (hc : c ≤ 600000) (hr : M.reps < 900000000) {n k : Nat} (hn : L0.next = n) (hk : L0.chain = k) :
    Calls Tryz.prog 48 #[.pointer (some ⟨b, 0, none⟩), .agg #[.int .i64 3, .int .i64 5], .int .u64 (n : Nat), .int .u32 (k : Nat)] w fun e w' => ∃ lb tk A cap, e = .returned (.tuple #[.pointer (some ⟨lb, 0, none⟩), .slice A rs.length cap, .int .i64 0]) ∧
      Hid (LgIn W w' (tk :: lb :: F) x b p tk lb M L) ∧ Hid (Minds F w w') ∧ Hid (∀ g ∈ F, g ≠ lb) := by
  refine (kOpen h hw hs hc hr hn hk).mono fun e w' ⟨lb, tk, A, cap, h1, h2, h3, h4⟩ => ⟨lb, tk, A, cap, h1, ?_, h3, Lib.hid (fun g hg => by have := h.lt g hg; have := h4.out; omega)⟩
  obtain ⟨F', K, rb, base, h5, h6⟩ := h2.out
  refine Lib.hid (h5.lg.less (fun g hg => ?_) ⟨by simp, by simp⟩)
  rcases List.mem_cons.1 hg with rfl | hg
  · exact h5.lg.mem.1
  · rcases List.mem_cons.1 hg with rfl | hg
    · exact h5.lg.mem.2
    · exact h6 g hg
end
end Go.Proofs.YtnpfhfgegjocoaaGreat
namespace Go.Proofs.YtnpfhfgegjocoaaGreat
open Go.ChangeShapes Go.WideShapes Go.ChangeAt Go.RowKit

def usC : UpdE := ⟨1, ⟨#[115, 97, 109, 101]⟩, ⟨#[115, 97, 109, 101]⟩, 0⟩
theorem usC_ok : usC.Ok := ⟨by decide, by decide, by decide, by decide, by decide, fun h => absurd rfl h, by decide, fun _ => rfl⟩
theorem info_fate : (Tryz.prog.info? 134).map (fun i => (i.zero, i.size, i.bytes)) = some (some (.int .i64 0), 1, 8) := by kernel_rfl
/-- Ahead of each lap. -/
structure CutIn (W w : World) (x : Nat → Nat) (db b p tk lb : Nat) (M : Mi) (rd : Nat → ByteArray) (L : LogE) : Prop where
  lg : LgIn W w [tk, lb, db] x b p tk lb M L
  st : WSt 0 M rd
  ls : LSt rd L L []
  dv : Blk w db 50 [.pointer (some ⟨x 0, 0, none⟩), .pointer (some ⟨x 1, 0, none⟩)]
  ne : db ≠ lb
  reps : M.reps = 0
set_option maxRecDepth 100000 in
set_option maxHeartbeats 6400000 in
theorem walCuts_walk (n laps : Nat) (A : Option Addr) (len cap : Nat) (zs : List Nat) (W : World) (hr : Row W A (u8sOf zs)) (hz : zs.length = len) (hlc : len ≤ cap) (hcm : cap ≤ maxLen) (hb : ∀ z ∈ zs, z < 256) (hn : n < 256) (hlp : laps < 256) :
    Calls Tryz.prog 13 #[.int .u8 (n : Nat), .int .u8 (laps : Nat), .slice A len cap] W fun e w' => e = .returned (.bool true) ∧ Mods [] W w' := by
  have HRW := Lib.hid hr
  have HZL := Lib.hid hz
  have HZB := Lib.hid hb
  clear hr hz hb
  unfold maxLen at hcm
  obtain ⟨q, hq⟩ : ∃ q : Nat, min (len : Int) 10 = (q : Int) := ⟨min len 10, by omega⟩
  have hql : q ≤ len := by omega
  have hq10 : q ≤ 10 := by omega
  obtain ⟨i8, hi8, _, _, _⟩ := info_parts info_u8C
  have hsl := fun (k : Int) (h0 : 0 ≤ k) (h1 : k ≤ cap) (W : World) => run_prefix Tryz.prog 22 5 i8 A len cap k W Tryz.underlying22 hi8 h0 h1
  obtain ⟨r6, hr6⟩ : ∃ r, laps % 6 = r := ⟨_, rfl⟩
  have hr6l : r6 ≤ 5 := by omega
  have hri : (laps : Int) % 6 = (r6 : Int) := by omega
  have hrt : (laps : Int).tmod 6 = (r6 : Int) := by rw [Int.tmod_eq_emod_of_nonneg (by omega)]; exact hri
  have hrw : IntKind.u8.wrap (r6 : Int) = (r6 : Int) := by rw [IntKind.wrap_u8]; omega
  obtain ⟨m, hm⟩ : ∃ m : Nat, (1 : Int) + (r6 : Int) = (m : Int) := ⟨1 + r6, by omega⟩
  have hm6 : m ≤ 6 := by omega
  have hmw : IntKind.u8.wrap (m : Int) = (m : Int) := by rw [IntKind.wrap_u8]; omega
  obtain ⟨nq, hnq⟩ : ∃ r, n % 6 = r := ⟨_, rfl⟩
  have hnql : nq ≤ 5 := by omega
  have hni : (n : Int) % 6 = (nq : Int) := by omega
  have hnt : (n : Int).tmod 6 = (nq : Int) := by rw [Int.tmod_eq_emod_of_nonneg (by omega)]; exact hni
  have hnw : IntKind.u8.wrap (nq : Int) = (nq : Int) := by rw [IntKind.wrap_u8]; omega
  have hnw2 : IntKind.i64.wrap (nq : Int) = (nq : Int) := by rw [IntKind.wrap_i64]; omega
  have HNQ := Lib.hid (And.intro hni (And.intro hnt (And.intro hnw hnw2)))
  have HLP := Lib.hid (And.intro hri (And.intro hrt (And.intro hrw hmw)))
  clear hr6 hnq hni hnt hnw hnw2 hri hrt hrw hmw
  go_enter Tryz.func13, Tryz.ntmps13
  go_upto_region 2 with (go_at_call 47; refine w13Fresh_any.mono ?_; rintro e w1 ⟨x, p, b, M, rfl, HO, HG⟩)
  obtain ⟨w2, hw2⟩ : ∃ w2, w1.alloc (.cells #[.pointer (some ⟨x 0, 0, none⟩), .pointer (some ⟨x 1, 0, none⟩)] 50) = w2 := ⟨_, rfl⟩
  obtain ⟨db, hdb⟩ : ∃ db, w1.heap.size = db := ⟨_, rfl⟩
  have hb2 : Blk w2 db 50 [.pointer (some ⟨x 0, 0, none⟩), .pointer (some ⟨x 1, 0, none⟩)] := by rw [← hw2, ← hdb]; exact Blk.new w1 50 _
  have hm2 : Mods [] w1 w2 := by rw [← hw2]; exact (Mods.refl _ _).alloc _
  have HO2 : Hid (OwnM W [db] w2 b p x M) := Lib.hid (HO.out.protect hm2 (fun g hg => .inr (by have := hb2.lt; have := List.mem_singleton.1 hg; omega)))
  rw [hw2, hdb]
  have HB2 := Lib.hid hb2
  have HW := Lib.hid (WSt.fresh HG.out)
  have HR := Lib.hid HG.out.reps
  clear hw2 hdb hb2 hm2 HO HG
  have HS := Lib.hid (LSt.fresh (s := 1) (k := 0) (by decide) (by decide))
  have cO := Lib.hid (fun (w : World) (hm : Mods [] w2 w) => show Calls Tryz.prog 48 #[.pointer (some ⟨b, 0, none⟩), .agg #[.int .i64 3, .int .i64 5], .int .u64 1, .int .u32 0] w _ from kOpenL (HO2.out.still hm) HW.out HS.out (by decide) (by rw [HR.out]; decide) (n := 1) (k := 0) rfl rfl)
  go_upto_region 3 with (first | (go_at_call 49; refine w13Ring_any.mono ?_; rintro e w3 ⟨rfl, HM3⟩) | (go_at_call 48; refine (cO.out _ HM3.out).mono ?_; rintro e w4 ⟨lb, tk, A4, cap4, rfl, HL4, HN4, HD4⟩) | fail)
  go_upto_region 6 with (go_at_call 52; refine w13Wakes_any.mono ?_; rintro e w5 ⟨rfl, HM5⟩)
  have HC0 : Hid (CutIn W w5 x db b p tk lb M (fun _ => bA (zerosL 192)) ⟨3, 5, 1, 0, 0⟩) := Lib.hid ⟨HL4.out.calm HM5.out, HW.out, HS.out, (HN4.out.blk (HB2.out.keep HM3.out (by simp)) (by simp)).keep HM5.out (by simp), HD4.out db (by simp), HR.out⟩
  have HRW5 := Lib.hid (HRW.out.keep0 HC0.out.lg.own.mods)
  clear cO HL4 HN4 HB2 HD4 HO2 HW HR HS HM3 HM5 HRW
  go_wp2_with fail
  go_loopw [13, 55] (fun fv kv wr => ∃ (i : Nat) (ys : List Value), i ≤ q ∧ kv = .int .i64 (i : Nat) ∧ wr.ownsRow w5.heap.size 134 1 fv i ys ∧ Mods [] w5 wr) (fun _ kv _ => q - (intOf kv).toNat)
  case atStart => exact ⟨0, [], by omega, rfl, World.ownsRow_nil _ _ _ _, Mods.refl _ _⟩
  case round =>
    obtain ⟨i, ys, hi, rfl, hown, hM⟩ := hrel
    have HM := Lib.hid hM
    obtain ⟨A13, cap13, rfl⟩ := slN_of hown
    by_cases hlt : i < q
    · have hlti : (i : Int) < (q : Int) := by omega
      have hzi : i < zs.length := by rw [HZL.out]; omega
      obtain ⟨z, hz⟩ : ∃ z, zs[i] = z := ⟨_, rfl⟩
      have hzb : z < 256 := by rw [← hz]; exact HZB.out _ (List.getElem_mem hzi)
      obtain ⟨bz, oz, rfl, hcl⟩ := (HRW5.out.keep0 hM).at (i := i) (u := .int .u8 (z : Nat)) (by unfold u8sOf; rw [List.getElem?_map, List.getElem?_eq_getElem hzi, hz]; rfl)
      have hzw : IntKind.i64.wrap (z : Int) = (z : Int) := by rw [IntKind.wrap_i64]; omega
      obtain ⟨wa, hwa⟩ : ∃ wa, wr.alloc (.cells #[.int .i64 (z : Nat)] 134) = wa := ⟨_, rfl⟩
      have hma : Mods [] wr wa := by rw [← hwa]; exact (Mods.refl _ _).alloc _
      have HMA := Lib.hid (hM.trans hma (by simp))
      have HROW := Lib.hid (owns_keepL hown hma)
      have hcn : ∀ j u, [Value.int .i64 (z : Nat)][j]? = some u → wa.cell? ((⟨wr.heap.size, 0, none⟩ : Addr).add j) = some u := fun j u hj => by
        rw [addr_add0, ← hwa]
        exact (Blk.new wr 134 [.int .i64 (z : Nat)]).cell hj
      have hsz : wa.heap.size = wr.heap.size + 1 := by rw [← hwa]; simp
      have hbase : w5.heap.size ≤ wa.heap.size := HMA.out.size
      obtain ⟨i0, hi0, hz1, hz2, hz3⟩ := info_parts info_fate
      clear hzi hz hM hma hown hzb
      go_wp2_with (first
        | (at_builtin; refine wpList_append_lies _ rfl (.tmp 59) (.tmp 62) 133 rfl w5.heap.size 134 i0 (.int .i64 0) 1 8 Tryz.underlying133 hi0 hz1 hz2 hz3 rfl (by decide) _ _ _ rfl HROW.out ⟨wr.heap.size, 0, none⟩ 1 1 [.int .i64 (z : Nat)] rfl rfl hcn (by simp [Value.oneCell']) (by decide) (by simp only [maxLen]; omega) (by omega) hbase (wr.heap.size + 1) hsz ?_; intro g2 cap2 w8 hown3 hg3 hat3 hlt3)
        | fail)
      go_roundw
      case rel =>
        refine ⟨i + 1, _, by omega, by go_num, hown3, HMA.out.grown hg3 (fun k hk => .inr ?_)⟩
        exact (HROW.out.lt k hk).1
      case measure => simp [intOf]; omega
    · obtain rfl : i = q := by omega
      have HC := Lib.hid (show CutIn W wr x db b p tk lb M (fun _ => bA (zerosL 192)) ⟨3, 5, 1, 0, 0⟩ from ⟨HC0.out.lg.calm HM.out, HC0.out.st, HC0.out.ls, HC0.out.dv.keep HM.out (by simp), HC0.out.ne, HC0.out.reps⟩)
      clear HC0 hown HM hlt hi
      generalize (fun _ : Nat => bA (zerosL 192)) = rd0 at *
      have hL0 : (⟨3, 5, 1, 0, 0⟩ : LogE).next ≤ 1 := Nat.le_refl _
      generalize (⟨3, 5, 1, 0, 0⟩ : LogE) = L0 at *
      generalize Value.slice A13 i cap13 = fv at *
      obtain ⟨hri, hrt, hrw, hmw⟩ := HLP.out
      clear hcm hlc hsl hq HRW5 hql hq10
      go_wp2_with fail
      clear hri hrt hrw hmw HLP hm
      go_loopw [10, 68] (fun lv kv wr => ∃ (j b p tk lb : Nat) (M : Mi) (rd : Nat → ByteArray) (L : LogE), j ≤ m ∧ kv = .int .u8 (j : Nat) ∧ lv = .pointer (some ⟨lb, 0, none⟩) ∧ CutIn W wr x db b p tk lb M rd L ∧ L.next ≤ 1 + 16 * j) (fun _ kv _ => m - (intOf kv).toNat)
      case atStart => exact ⟨0, b, p, tk, lb, M, rd0, L0, by omega, rfl, rfl, HC.out, by omega⟩
      case round =>
        clear HC hL0
        clear L0 rd0
        obtain ⟨j, b, p, tk, lb, M, rd, L, hj, rfl, rfl, hC, hLn⟩ := hrel
        have HC := Lib.hid hC
        clear hC
        by_cases hjm : j < m
        · have hjmi : (j : Int) < (m : Int) := by omega
          obtain ⟨hni, hnt, hnw, hnw2⟩ := HNQ.out
          go_wp2_with fail
          clear hni hnt hnw hnw2
          go_loopw [73] (fun kv wr2 => ∃ (i : Nat) (M' : Mi) (rd' : Nat → ByteArray) (L' : LogE) (rs : List (List UpdE)), i ≤ nq ∧ kv = .int .i64 (i : Nat) ∧ LgIn W wr2 [tk, lb, db] x b p tk lb M' L' ∧ WSt (2 * i) M' rd' ∧ LSt rd' L L' rs ∧ rs.length = i ∧ Blk wr2 db 50 [.pointer (some ⟨x 0, 0, none⟩), .pointer (some ⟨x 1, 0, none⟩)] ∧ M'.reps = 0) (fun kv _ => nq - (intOf kv).toNat)
          case atStart => exact ⟨0, M, rd, L, [], by omega, rfl, HC.out.lg, HC.out.st, HC.out.ls, rfl, HC.out.dv, HC.out.reps⟩
          case round =>
            obtain ⟨i, M', rd', L', rs, hi, rfl, hLg, hSt, hLs, hlen, hdv, hrp⟩ := hrel
            have HNE := Lib.hid HC.out.ne
            have HLG := Lib.hid hLg
            have HST := Lib.hid hSt
            have HLS := Lib.hid hLs
            have HDV := Lib.hid hdv
            have HRP := Lib.hid hrp
            have HLEN := Lib.hid hlen
            have hLn2 : L'.next ≤ 6 + 16 * j := by have := hLs.facts.2.2.2.1; omega
            clear hLg hSt hLs hdv hrp HC
            by_cases hin : i < nq
            · have hini : (i : Int) < (nq : Int) := by omega
              have cA := Lib.hid (show Calls Tryz.prog 53 #[.pointer (some ⟨lb, 0, none⟩), .slice (some ⟨wr.heap.size, 0, none⟩) 1 1] (wr.alloc (.cells #[.int .u8 1, .string ⟨#[115, 97, 109, 101]⟩, .string ⟨#[115, 97, 109, 101]⟩, .int .u64 0] 113)) _ from kAppOne HLG.out HST.out HLS.out (by omega) (by omega) (by omega) usC usC_ok)
              clear hlen
              go_wp2_with (go_at_call 53; refine cA.out.mono ?_; rintro e w6 ⟨M1, rd1, rfl, HW1, HS1, HL1, HR1, HN6⟩)
              go_roundw
              case rel =>
                refine ⟨i + 1, M1, rd1, L'.took [usC], rs ++ [[usC]], by omega, by go_num, HL1.out, by have h := HW1.out; rw [show 2 * (i + 1) = 2 * i + 2 by omega]; exact h, HS1.out, by rw [List.length_append, HLEN.out]; rfl, ?_, HR1.out.trans HRP.out⟩
                exact (HN6.out [db] (fun k hk => by rw [List.mem_singleton.1 hk]; exact ⟨by simp, HNE.out⟩)).blk HDV.out (by simp)
              case measure => simp [intOf]; omega
            · obtain rfl : i = nq := by omega
              have hini : ¬ (i : Int) < (i : Int) := by omega
              have cS := Lib.hid (kSync HLG.out HST.out (by omega))
              have HNX := Lib.hid HLS.out.facts
              go_upto_region 20 with (first | (go_at_call 54; refine cS.out.mono ?_; rintro e w6 ⟨M2, rfl, HW2, HL2, HR2, HN6⟩) | fail)
              have HB6 := Lib.hid (HN6.out.blk HDV.out (by simp))
              have cC0 := kCut HL2.out HLS.out (by omega)
              obtain ⟨n2, hn2⟩ : ∃ n2, L'.next + 5 = n2 := ⟨_, rfl⟩
              obtain ⟨k2, hk2⟩ : ∃ k2, L'.chain = k2 := ⟨_, rfl⟩
              rw [hn2, hk2] at cC0
              have cC := Lib.hid cC0
              have HL2N : Hid (L'.cut.next = n2 ∧ L'.cut.chain = k2 ∧ n2 ≤ 11 + 16 * j) := Lib.hid ⟨by rw [← hn2]; show L'.next + L'.count = _; rw [HNX.out.2.1], hk2, by omega⟩
              clear cC0 hn2 hk2 HNX hLn2
              clear cS HLG HST HN6 HDV HRP HR2 HLEN
              go_upto_region 23 with (first | (go_at_call 51; refine cC.out.mono ?_; rintro e w7 ⟨rfl, HS7, HL7, HN7⟩) | fail)
              have HB7 := Lib.hid ((HN7.out [db] (fun k hk => by rw [List.mem_singleton.1 hk]; exact HNE.out)).blk HB6.out (by simp))
              clear cC HN7 HB6 HL2 HLS
              have cX0 := Lib.hid (oCrash HL7.out.own HW2.out.fine (s := 0) (by decide) fv)
              have z0 := HB7.out.cell (i := 0) rfl
              go_upto_region 24 with (first | (go_at_call 62; refine cX0.out.mono ?_; rintro e w8 ⟨rfl, HO8, HN8⟩) | fail)
              have HB8 := Lib.hid (HN8.out.blk HB7.out (by simp))
              clear cX0 z0 HN8 HB7 HL7
              have cX1 := Lib.hid (oCrash HO8.out HW2.out.fine (s := 1) (by decide) fv)
              have z1 := HB8.out.cell (i := 1) rfl
              go_upto_region 25 with (first | (go_at_call 62; refine cX1.out.mono ?_; rintro e w9 ⟨rfl, HO9, HN9⟩) | fail)
              have HB9 := Lib.hid (HN9.out.blk HB8.out (by simp))
              clear cX1 z1 HN9 HB8 HO8
              have cG := Lib.hid (w13Again_any HO9.out HW2.out.gm (by decide))
              have z0 := HB9.out.cell (i := 0) rfl
              have z1 := HB9.out.cell (i := 1) rfl
              go_upto_region 26 with (first | (go_at_call 57; refine cG.out.mono ?_; rintro e w10 ⟨b2, p2, G, rfl, HO10, HRS10, HN10⟩) | fail)
              have HB10 := Lib.hid (HN10.out.blk HB9.out (by simp))
              clear cG z0 z1 HN10 HB9 HO9
              obtain ⟨F2, hF2⟩ : ∃ F2, G ++ [tk, lb, db] = F2 := ⟨_, rfl⟩
              have HF2 : Hid (db ∈ F2) := Lib.hid (by rw [← hF2]; simp)
              rw [hF2] at HO10
              clear hF2 HRS10 G
              obtain ⟨L2, hL2⟩ : ∃ L2, L'.cut = L2 := ⟨_, rfl⟩
              rw [hL2] at HS7 HL2N
              clear hL2
              have cO2 := Lib.hid (fun (w : World) (hm : Mods [] w10 w) => show Calls Tryz.prog 48 #[.pointer (some ⟨b2, 0, none⟩), .agg #[.int .i64 3, .int .i64 5], .int .u64 (n2 : Nat), .int .u32 (k2 : Nat)] w _ from kOpenL (HO10.out.still hm) HW2.out.openM HS7.out (by decide) (by show (0 : Nat) < 900000000; decide) HL2N.out.1 HL2N.out.2.1)
              go_upto_region 27 with (first | (go_at_call 49; refine w13Ring_any.mono ?_; rintro e w11 ⟨rfl, HM11⟩) | (go_at_call 48; refine (cO2.out _ HM11.out).mono ?_; rintro e w12 ⟨lb2, tk2, A2, cap2, rfl, HL12, HN12, HD12⟩) | fail)
              have HNE2 : Hid (db ≠ lb2) := Lib.hid (HD12.out db HF2.out)
              have HB12 := Lib.hid (HN12.out.blk (HB10.out.keep HM11.out (by simp)) HF2.out)
              have HL13 : Hid (LgIn W w12 [tk2, lb2, db] x b2 p2 tk2 lb2 (openM M2) L2) := Lib.hid (HL12.out.less (fun g hg => by
                simp only [List.mem_cons, List.not_mem_nil, or_false] at hg
                rcases hg with rfl | rfl | rfl
                · simp
                · simp
                · exact List.mem_cons_of_mem _ (List.mem_cons_of_mem _ HF2.out)) ⟨by simp, by simp⟩)
              have cA := Lib.hid (show Calls Tryz.prog 53 #[.pointer (some ⟨lb2, 0, none⟩), .slice (some ⟨w12.heap.size, 0, none⟩) 1 1] (w12.alloc (.cells #[.int .u8 1, .string ⟨#[115, 97, 109, 101]⟩, .string ⟨#[115, 97, 109, 101]⟩, .int .u64 0] 113)) _ from kAppOne HL13.out HW2.out.openM HS7.out (by decide) (by decide) (by have h1 := HL2N.out; omega) usC usC_ok)
              clear cO2 HL12 HN12 HD12 HB10 HM11 HO10
              have cS2 := Lib.hid (fun (w : World) (M : Mi) (rd : Nat → ByteArray) (h : LgIn W w [tk2, lb2, db] x b2 p2 tk2 lb2 M (L2.took [usC])) (hw : WSt 2 M rd) => kSync h hw (by decide))
              go_upto_region 29 with (first | (go_at_call 53; refine cA.out.mono ?_; rintro e w13 ⟨M3, rd3, rfl, HW3, HS3, HL3, HR3, HN13⟩) | (go_at_call 54; refine (cS2.out _ _ _ HL3.out HW3.out).mono ?_; rintro e w14 ⟨M4, rfl, HW4, HL4, HR4, HN14⟩) | fail)
              have HB14 := Lib.hid (HN14.out.blk ((HN13.out [db] (fun k hk => by rw [List.mem_singleton.1 hk]; exact ⟨by simp, HNE2.out⟩)).blk HB12.out (by simp)) (by simp))
              have HRZ : Hid (M4.reps = 0) := Lib.hid (HR4.out.trans HR3.out)
              clear cA cS2 HN13 HN14 HB12 HL13 HL3 HW3 HR3 HR4 HW2
              obtain ⟨L3, hL3⟩ : ∃ L3, L2.took [usC] = L3 := ⟨_, rfl⟩
              have HL3N : Hid (L3.next = n2 + 1) := Lib.hid (by rw [← hL3]; show L2.next + 1 = _; rw [HL2N.out.1])
              rw [hL3] at HS3 HL4
              clear hL3
              have cO3 := Lib.hid (fun (w : World) (hm : Mods [] w14 w) => show Calls Tryz.prog 48 #[.pointer (some ⟨b2, 0, none⟩), .agg #[.int .i64 3, .int .i64 5], .int .u64 (n2 : Nat), .int .u32 (k2 : Nat)] w _ from kOpenL (HL4.out.own.still hm) HW4.out HS3.out (by decide) (by rw [HRZ.out]; decide) HL2N.out.1 HL2N.out.2.1)
              go_upto_region 33 with (first | (go_at_call 49; refine w13Ring_any.mono ?_; rintro e w15 ⟨rfl, HM15⟩) | (go_at_call 48; refine (cO3.out _ HM15.out).mono ?_; rintro e w16 ⟨lb3, tk3, A3, cap3, rfl, HL16, HN16, HD16⟩) | fail)
              have HB16 := Lib.hid (HN16.out.blk (HB14.out.keep HM15.out (by simp)) (by simp))
              have HL17 : Hid (LgIn W w16 [tk2, lb2, db] x b2 p2 tk2 lb2 M4 L3) := Lib.hid ((HL4.out.calm HM15.out).go (HL16.out.own.fewer (fun g hg => List.mem_cons_of_mem _ (List.mem_cons_of_mem _ hg))) HN16.out)
              have cC2 := Lib.hid (kCut HL17.out HS3.out (by have h1 := HL2N.out.2.2; have h2 := HL3N.out; omega))
              have HC3 := Lib.hid (HS3.out.facts.2.1)
              clear cO3 HL16 HN16 HD16 HM15 HL4 HB14 HS3 HS7
              go_upto_region 36 with (first | (go_at_call 51; refine cC2.out.mono ?_; rintro e w17 ⟨rfl, HS17, HL18, HN17⟩) | fail)
              go_wp2_with fail
              go_roundw
              case rel =>
                refine ⟨j + 1, b2, p2, tk2, lb2, M4, rd3, L3.cut, by omega, by go_num, rfl, ⟨HL18.out, HW4.out, HS17.out, (HN17.out [db] (fun k hk => by rw [List.mem_singleton.1 hk]; exact HNE2.out)).blk HB16.out (by simp), HNE2.out, HRZ.out⟩, ?_⟩
                show L3.next + L3.count ≤ _
                rw [HL3N.out, HC3.out]
                have := HL2N.out.2.2
                omega
              case measure => simp [intOf]; omega
        · have hjmi : ¬ (j : Int) < (m : Int) := by omega
          go_wp2_with fail
          go_ret
          exact ⟨rfl, HC.out.lg.own.mods⟩
theorem readables_walCuts : ∀ t ∈ (#[5, 5, 22] : Array TypeId).toList, Tryz.prog.readableRec t = true ∧ t < Tryz.prog.types.size := by
  intro t ht
  simp only [List.mem_cons, List.not_mem_nil, or_false] at ht
  rcases ht with rfl | rfl | rfl
  all_goals exact ⟨by kernel_rfl, of_decide_eq_true (by kernel_rfl)⟩

set_option maxRecDepth 100000 in
theorem walCuts_contract (H : Type) (enc : TypeId × Value → H) (W : World) (base : Nat) (args : Array Value) (ds gs : List (DataW H)) (before : List MemPlace)
    (hval : ∀ (j : Nat) t v, Tryz.f13.params[j]? = some t → args[j]? = some v → Value.okWide Tryz.prog W .any base t v)
    (hW : DataW.Whole enc Tryz.prog Tryz.f13.params.toList Rows.walCutsSpec.vars false W args.toList ds gs before) :
    Calls Tryz.prog 13 args W fun e W' => ∃ v, e = .returned v ∧ Rows.walCutsSpec.post enc Tryz.prog Tryz.f13 false true false false W args v W' := by
  have hW' := hW
  obtain ⟨p, q, hA0, hV, he, hfz, hnd⟩ := hW
  have hA : DataW.TrodAll enc Tryz.prog W 0 (fun _ => true) true Tryz.f13.params.toList args.toList ds p := hA0
  rw [Tryz.params13] at hA hval
  obtain ⟨v0, vs0, d0, ds0, p0, q0, hargs, rfl, rfl, h0, r0⟩ := trodAll_cons hA
  obtain ⟨v1, vs1, d1, ds1, p1, q1, rfl, rfl, rfl, h1, r1⟩ := trodAll_cons r0
  obtain ⟨v2, vs2, d2, ds2, p2, q2, rfl, rfl, rfl, h2, r2⟩ := trodAll_cons r1
  obtain ⟨rfl, rfl, rfl⟩ := trodAll_nil r2
  obtain rfl : args = #[v0, v1, v2] := by cases args; simp_all
  obtain ⟨n', rfl, rfl, rfl, wn⟩ := open_int Tryz.underlying5 (hval 0 5 v0 rfl rfl) h0
  have bn := bounds_u8 wn
  obtain ⟨n, rfl⟩ := Int.eq_ofNat_of_zero_le bn.1
  obtain ⟨laps', rfl, rfl, rfl, wlaps⟩ := open_int Tryz.underlying5 (hval 1 5 v1 rfl rfl) h1
  have blaps := bounds_u8 wlaps
  obtain ⟨laps, rfl⟩ := Int.eq_ofNat_of_zero_le blaps.1
  obtain ⟨zA, zLen, zCap, z, rfl, zRow, zL, zC, zM, zB⟩ := u8s_open Tryz.underlying22 Tryz.underlying5 cellsU8 (hval 2 22 v2 rfl rfl) h2
  refine (walCuts_walk n laps zA zLen zCap z W zRow zL zC zM zB (by have := bn.2; omega) (by have := blaps.2; omega)).mono fun e W' ⟨he', hm⟩ => ?_
  subst he'
  exact ⟨_, rfl, post_law laidOut (by rw [Tryz.params13]; exact readables_walCuts) (by rfl) Tryz.underlying4 rfl rfl hW' hm.below⟩

set_option maxRecDepth 100000 in
theorem walCuts_lifted (os : Os) (started : os.Started) (H : Type) (enc : TypeId × Value → H) :
    ReturnsInHanded {} Tryz.checked os 13 .any (Rows.walCutsSpec.pre6 enc Tryz.prog Tryz.f13 Rows.walCutsRow.domain false) (Rows.walCutsSpec.post enc Tryz.prog Tryz.f13 false true false false) := by
  refine returnsInHanded_of_change (C := Tryz.checked) own started (by kernel_rfl) Tryz.func13
    (ChangeSpec.witness6 (enc := enc) (C := Tryz.checked) false ⟨#[], #[.int .u8 0, .int .u8 0, .slice none 0 0], []⟩ 8 (by kernel_rfl) (by kernel_rfl) (by kernel_rfl) (by kernel_rfl)) ?_
  intro W base args ds gs before hval hW _ _
  exact walCuts_contract H enc W base args ds gs before hval hW

/-- The law. -/
theorem walCuts_said : Rows.WalCutsSaid :=
  OpenClaim.holds_of_wide 13 Tryz.f13 rfl rfl rfl rfl rfl rfl rfl ⟨rfl, rfl, rfl, rfl, rfl⟩ rfl rfl rfl rfl rfl (by kernel_rfl) Tryz.func13 (by kernel_rfl)
    (of_decide_eq_true (by kernel_rfl)) (by unfold Func.isWrapper; first | (rw [if_pos (by decide +kernel)]; kernel_rfl) | (rw [if_neg (by decide +kernel)]; exact ⟨rfl, rfl⟩))
    (fun os started H enc _ => walCuts_lifted os started H enc)
end Go.Proofs.YtnpfhfgegjocoaaGreat
