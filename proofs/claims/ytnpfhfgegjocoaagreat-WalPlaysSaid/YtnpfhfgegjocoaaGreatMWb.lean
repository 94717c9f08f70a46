/- The log over a mirror of which copies are damaged, plainly: what Open goes through then. -/
import Derived.Test.YtnpfhfgegjocoaaGreatMI
import Derived.Test.YtnpfhfgegjocoaaGreatMWalo
/- dev: Crash, of a device of which nothing waits. -/
namespace Go.Proofs.YtnpfhfgegjocoaaGreat
open Go.RowKit

set_option maxRecDepth 100000 in
set_option maxHeartbeats 1600000 in
theorem dCrash0 {W : World} {b : Nat} {fp : List Nat} {D : Dev} (h : IsDev W b fp D) (hc : D.cache = []) (ho : D.off = false) (hf : D.fuse = 0) (v : Value) :
    Calls Tryz.prog 62 #[.pointer (some ⟨b, 0, none⟩), v] W fun e w' => e = .returned (.tuple #[]) ∧ Hid (∃ fp', DevTo W w' b fp fp' D) := by
  obtain ⟨mb, bb, cv, c0, c1, c2, hin, rfl, hnd⟩ := h
  obtain ⟨A, cap, hcv, _⟩ := owns_shapeD hin.cache
  rw [hc] at hcv
  subst hcv
  have hn := hnd
  simp only [List.nodup_cons, List.mem_cons, Option.mem_toList, not_or] at hn
  obtain ⟨⟨n1, n2, n3⟩, ⟨n4, n5⟩, n6, _⟩ := hn
  have HIN := Lib.hid hin
  have HC := Lib.hid (And.intro hc (And.intro ho hf))
  have HN := Lib.hid (And.intro n1 (And.intro n2 n4))
  have d4 := hin.dev.cell (i := 4) rfl
  have f4 := hin.dev.free 4
  have f5 := hin.dev.free 5
  have f9 := hin.dev.free 9
  have d5 := hin.dev.cell (i := 5) rfl
  have d9 := hin.dev.cell (i := 9) rfl
  clear hin hc ho hf n1 n2 n3 n4 n5 n6 hnd
  go_enter Tryz.func62, Tryz.ntmps62
  go_wp2_with fail
  go_loopw [13] (fun iv wr => iv = .int .i64 0 ∧ wr = W) (fun _ _ => 0)
  case atStart => exact ⟨rfl, rfl⟩
  case round =>
    obtain ⟨rfl, rfl⟩ := hrel
    go_wp2_with fail
    go_end0
    have e : (((devCells D mb bb (.slice A 0 cap) c0 c1 c2).set 4 (.slice none 0 0)).set 9 (.bool false)).set 5 (.int .i64 0) = devCells D mb bb (.slice none 0 0) c0 c1 c2 := by
      unfold devCells
      rw [HC.out.2.1, HC.out.2.2]
      rfl
    have hB := ((HIN.out.dev.set 4 (.slice none 0 0)).set 9 (.bool false)).set 5 (.int .i64 0)
    rw [List.length_nil, e] at hB
    have hm : Mods [b] wr (((wr.setCell ⟨b, 4, none⟩ (.slice none 0 0)).setCell ⟨b, 9, none⟩ (.bool false)).setCell ⟨b, 5, none⟩ (.int .i64 0)) := (((Mods.refl _ _).setCell (by simp) _).setCell (by simp) _).setCell (by simp) _
    obtain ⟨n1, n2, n4⟩ := HN.out
    refine ⟨rfl, Lib.hid ⟨[b, mb, bb], ⟨mb, bb, .slice none 0 0, c0, c1, c2, ⟨HIN.out.ok, HIN.out.fuse, HIN.out.lose, HIN.out.stray, hB, HIN.out.media.keep hm (by simpa using fun e => n1 e.symm), HIN.out.bad.keep hm (by simpa using fun e => n2 e.symm), ?_⟩, rfl, ?_⟩, fun k hk => .inl ?_, hm.mono (by simp)⟩⟩
    · rw [HC.out.1]
      exact World.ownsRow_nil _ _ _ _
    · simp [n1, n2, n4]
    · simp only [List.mem_cons, List.not_mem_nil, or_false] at hk
      simp only [List.mem_cons]
      rcases hk with h | h | h
      · exact .inl h
      · exact .inr (.inl h)
      · exact .inr (.inr (.inl h))
/-- Crash, where all was flushed. -/
theorem oCrash {W w : World} {F : List Nat} {x : Nat → Nat} {b p : Nat} {M : Mi} {B z : Nat} (h : OwnM W F w b p x M) (hF : Fine B z 0 M.P) {s : Nat} (hs : s < 2) (v : Value) :
    Calls Tryz.prog 62 #[.pointer (some ⟨x s, 0, none⟩), v] w fun e w' => e = .returned (.tuple #[]) ∧ Hid (OwnM W F w' b p x M) ∧ Hid (Minds F w w') := by
  obtain ⟨tb, mb, gp, fx, hI, hf⟩ := h.ex
  have ho := hF.on s hs
  refine (dCrash0 (hI.pair.dev s hs) (List.eq_nil_of_length_eq_zero (Nat.le_zero.1 ho.few)) ho.off ho.fuse v).mono fun e w' ⟨h1, h2⟩ => ?_
  obtain ⟨fp', h3⟩ := h2.out
  obtain ⟨k1, k2⟩ := h.dev hI hf hs h3 ⟨rfl, rfl⟩
  have e : M.P.setDev s (M.P.dev s) = M.P := by
    unfold Pr.setDev
    congr 1
    funext k
    split
    · rename_i e; rw [e]
    · rfl
  rw [e] at k1
  exact ⟨h1, k1, k2⟩
end Go.Proofs.YtnpfhfgegjocoaaGreat
/- law13: the log over a sound mirror: one update appended; cut; crashed; opened beside another log. -/
namespace Go.Proofs.YtnpfhfgegjocoaaGreat
open Go.RowKit

section
variable {W w w' : World} {F : List Nat} {x : Nat → Nat} {b p tk lb : Nat} {M : Mi} {L0 L : LogE} {rs : List (List UpdE)} {c : Nat} {rd : Nat → ByteArray}
theorem kAppOne (h : LgIn W w F x b p tk lb M L) (hw : WSt c M rd) (hs : LSt rd L0 L rs) (hc : c ≤ 600000) (hh : rs.length < 5) (hn1 : L.next + 1 < 18446744073709551616) (u : UpdE) (hu : u.Ok) :
    Calls Tryz.prog 53 #[.pointer (some ⟨lb, 0, none⟩), .slice (some ⟨w.heap.size, 0, none⟩) 1 1] (w.alloc (.cells (updC u).toArray 113)) fun e w' => ∃ M' rd', e = .returned (.int .i64 0) ∧ Hid (WSt (c + 2) M' rd') ∧ Hid (LSt rd' L0 (L.took [u]) (rs ++ [[u]])) ∧ Hid (LgIn W w' F x b p tk lb M' (L.took [u])) ∧ Hid (M'.reps = M.reps) ∧ Hid (∀ G, (∀ k ∈ G, k ∈ F ∧ k ≠ lb) → Minds G w w') := by
  have hm : Mods [] w (w.alloc (.cells (updC u).toArray 113)) := (Mods.refl _ _).alloc _
  have hl := h.lg.lt
  have hk : ∀ k ∈ [w.heap.size], w.heap.size ≤ k ∧ k < (w.alloc (.cells (updC u).toArray 113)).heap.size := fun k hk => by rw [List.mem_singleton.1 hk]; exact ⟨Nat.le_refl _, by simp⟩
  have hrow : Row (w.alloc (.cells (updC u).toArray 113)) (some ⟨w.heap.size, 0, none⟩) (uRow [u]) := .inr ⟨w.heap.size, 0, rfl, fun i v hi => by
    rw [Nat.zero_add]
    have e : uRow [u] = updC u := by unfold uRow; simp
    rw [e] at hi
    exact (Blk.new w 113 (updC u)).cell hi⟩
  have hlen : (recL [u]).length ≤ 154 := by
    have e : recL [u] = updL u := by unfold recL; simp
    rw [e]
    have := updL_len hu
    omega
  refine (kApp (h.protect (G := [w.heap.size]) hm hk) hw hs hc hh hn1 hrow (us := [u]) (len := 1) rfl (by decide) (by decide) (fun v hv => by rw [List.mem_singleton.1 hv]; exact hu) hlen (fun a ha => by cases ha; exact ⟨by simp, by show w.heap.size ≠ lb; omega⟩)).mono fun e w' ⟨M', rd', h1, h2, h3, h4, h5, h6⟩ => ?_
  exact ⟨M', rd', h1, h2, h3, Lib.hid (h4.out.less (fun k hk => List.mem_append_right _ hk) h.mem), h5, Lib.hid (fun G hG => (Minds.of hm).trans (h6.out G (fun k hk => ⟨List.mem_append_right _ (hG k hk).1, (hG k hk).2⟩)))⟩
/-- The log's own block turned. -/
theorem LgIn.self {L2 : LogE} (h : LgIn W w F x b p tk lb M L) (hm : Mods [lb] w w') (hb : Blk w' lb 214 (lgC b tk L2)) : LgIn W w' F x b p tk lb M L2 :=
  ⟨h.own.aside hm (fun k hk => by rw [List.mem_singleton.1 hk]; exact ⟨h.mem.2, h.old⟩), h.sum.keep hm (by simpa using h.ne), hb, h.mem, h.old, h.ne⟩
theorem kCut (h : LgIn W w F x b p tk lb M L) (hs : LSt rd L0 L rs) (hn : L.next + 5 < 18446744073709551616) :
    Calls Tryz.prog 51 #[.pointer (some ⟨lb, 0, none⟩)] w fun e w' => e = .returned (.tuple #[.int .u64 ((L.next + 5 : Nat) : Nat), .int .u32 (L.chain : Nat), .int .i64 0]) ∧ Hid (LSt rd L.cut L.cut []) ∧ Hid (LgIn W w' F x b p tk lb M L.cut) ∧ Hid (∀ G, (∀ k ∈ G, k ≠ lb) → Minds G w w') := by
  obtain ⟨f1, f2, f3, f4, f5⟩ := hs.facts
  have key := lgCut_any h.lg hs.ok (by rw [f2]; exact hn)
  rw [f2] at key
  refine key.mono fun e w' ⟨h1, h2, h3⟩ => ⟨h1, Lib.hid (hs.cut (by rw [f2]; exact hn)), Lib.hid (h.self h2.out ?_), Lib.hid (fun G hG => ⟨[lb], h2.out, fun k hk hx => by rw [List.mem_singleton.1 hk] at hx; exact hG _ hx rfl⟩)⟩
  have e : L.cut = ⟨L.first, 5, L.next + 5, L.chain, 0⟩ := by unfold LogE.cut; rw [f2]
  rw [e]
  exact h3.out
/-- Open beside other blocks: the log, and all else as it was. -/
theorem kOpenL (h : OwnM W F w b p x M) (hw : WSt c M rd) (hs : LSt rd L0 L rs) (hc : c ≤ 600000) (hr : M.reps < 900000000) {n k : Nat} (hn : L0.next = n) (hk : L0.chain = k) :
    Calls Tryz.prog 48 #[.pointer (some ⟨b, 0, none⟩), .agg #[.int .i64 3, .int .i64 5], .int .u64 (n : Nat), .int .u32 (k : Nat)] w fun e w' => ∃ lb tk A cap, e = .returned (.tuple #[.pointer (some ⟨lb, 0, none⟩), .slice A rs.length cap, .int .i64 0]) ∧
      Hid (LgIn W w' (tk :: lb :: F) x b p tk lb M L) ∧ Hid (Minds F w w') ∧ Hid (∀ g ∈ F, g ≠ lb) := by
  refine (kOpen h hw hs hc hr hn hk).mono fun e w' ⟨lb, tk, A, cap, h1, h2, h3, h4⟩ => ⟨lb, tk, A, cap, h1, ?_, h3, Lib.hid (fun g hg => by have := h.lt g hg; have := h4.out; omega)⟩
  obtain ⟨F', K, rb, base, h5, h6⟩ := h2.out
  refine Lib.hid (h5.lg.less (fun g hg => ?_) ⟨by simp, by simp⟩)
  rcases List.mem_cons.1 hg with rfl | hg
  · exact h5.lg.mem.1
  · rcases List.mem_cons.1 hg with rfl | hg
    · exact h5.lg.mem.2
    · exact h6 g hg
end
end Go.Proofs.YtnpfhfgegjocoaaGreat
namespace Go.Proofs.YtnpfhfgegjocoaaGreat

def updR2 (rd : Nat → Nat → ByteArray) (s i : Nat) (X : ByteArray) : Nat → Nat → ByteArray := fun d j => if d = s ∧ j = i then X else rd d j
/-- A mirror whose copies are these. -/
structure W2 (c : Nat) (M : Mi) (rd : Nat → Nat → ByteArray) : Prop where
  gm : Gm 16 192 4 c M
  sound : Sound M.P
  still : Still 16 4 M.P
  read : ∀ (s i : Nat), s < 2 → i < 16 → M.P.read s (i : Int) = (rd s i, 0)
  size : ∀ s i, s < 2 → i < 16 → (rd s i).size = 192
section
variable {c : Nat} {M : Mi} {rd : Nat → Nat → ByteArray}
theorem WSt.two {r : Nat → ByteArray} (h : WSt c M r) : W2 c M (fun _ => r) := ⟨h.gm, h.sound, h.still, h.both, fun _ i _ hi => h.size i hi⟩
theorem W2.fine (h : W2 c M rd) : Fine 16 192 c M.P := h.gm.fine
theorem W2.mono {c' : Nat} (h : W2 c M rd) (hc : c ≤ c') : W2 c' M rd := ⟨h.gm.mono hc, h.sound, h.still, h.read, h.size⟩
theorem W2.garble (h : W2 c M rd) {s i : Nat} (hs : s < 2) (hi : i < 16) (a : Nat) (y : UInt8) : W2 c { M with P := M.P.setDev s ((M.P.dev s).garble (i + 4) a y) } (updR2 rd s i (turnB (rd s i) a y)) := by
  obtain ⟨g1, g2, g3, g4, g5⟩ := h.gm.garble h.still hs hi a y
  refine ⟨g1, g3 h.sound, g2, fun d j hd hj => ?_, fun d j hd hj => ?_⟩
  · unfold updR2
    by_cases e : d = s ∧ j = i
    · obtain ⟨rfl, rfl⟩ := e
      rw [if_pos ⟨rfl, rfl⟩]
      exact g5 _ (h.read d j hd hj)
    · rw [if_neg e]
      refine (g4 d j hd hj ?_).trans (h.read d j hd hj)
      by_cases e1 : d = s
      · exact .inr (fun e2 => e ⟨e1, e2⟩)
      · exact .inl e1
  · unfold updR2
    split
    · rw [turnB_size]; exact h.size s i hs hi
    · exact h.size d j hd hj
/-- One side of a block is healed. -/
theorem W2.healS (h : W2 c M rd) {s i : Nat} (hs : s < 2) (hi : i < 16) {X : ByteArray} (hX : X.size = 192) :
    ∃ k M', M.healS s i X = (k, M') ∧ W2 (c + 1) M' (updR2 rd s i X) ∧ M'.reps = M.reps + (if rd s i = X then 0 else 1) := by
  unfold Mi.healS
  rw [h.read s i hs hi]
  by_cases e : rd s i = X
  · rw [if_pos (by rw [e]), if_pos e]
    refine ⟨0, M, rfl, ⟨h.gm.mono (by omega), h.sound, h.still, fun d j hd hj => ?_, fun d j hd hj => ?_⟩, rfl⟩
    · unfold updR2
      split
      · rename_i e2; obtain ⟨rfl, rfl⟩ := e2; rw [h.read d j hd hj, e]
      · exact h.read d j hd hj
    · unfold updR2
      split
      · exact hX
      · exact h.size d j hd hj
  · rw [if_neg (fun e2 => e (congrArg Prod.fst e2)), if_neg e]
    obtain ⟨M', e1, g, n1, x1, o, r, t, _⟩ := h.gm.repair_ok h.sound hs hi hX
    rw [e1]
    refine ⟨1, M', rfl, ⟨g, n1, fun d hd => by rw [t]; exact h.still d hd, fun d j hd hj => ?_, fun d j hd hj => ?_⟩, r⟩
    · unfold updR2
      by_cases e2 : d = s ∧ j = i
      · obtain ⟨rfl, rfl⟩ := e2; rw [if_pos ⟨rfl, rfl⟩]; exact x1
      · rw [if_neg e2]
        refine (o d j hd hj ?_).trans (h.read d j hd hj)
        by_cases e3 : d = s
        · exact .inr (fun e4 => e2 ⟨e3, e4⟩)
        · exact .inl e3
    · unfold updR2
      split
      · exact hX
      · exact h.size d j hd hj
def healR (rd : Nat → Nat → ByteArray) (i : Nat) (X : ByteArray) : Nat → Nat → ByteArray := fun d j => if j = i then X else rd d j
/-- A block is healed. -/
theorem W2.heal (h : W2 c M rd) {i : Nat} (hi : i < 16) {X : ByteArray} (hX : X.size = 192) :
    W2 (c + 2) (M.heal i X).2 (healR rd i X) ∧ (M.heal i X).2.reps = M.reps + ((if rd 0 i = X then 0 else 1) + (if rd 1 i = X then 0 else 1)) := by
  obtain ⟨k0, M0, e0, h0, r0⟩ := h.healS (s := 0) (by decide) hi hX
  obtain ⟨k1, M1, e1, h1, r1⟩ := h0.healS (s := 1) (by decide) hi hX
  have e : (M.heal i X).2 = M1 := by
    unfold Mi.heal
    simp only
    rw [e0]
    simp only
    rw [e1]
  rw [e]
  have hu : updR2 rd 0 i X 1 i = rd 1 i := by unfold updR2; rw [if_neg (by simp)]
  rw [hu] at r1
  have hr : ∀ d j, d < 2 → updR2 (updR2 rd 0 i X) 1 i X d j = healR rd i X d j := fun d j hd => by
    unfold updR2 healR
    rcases two_cases hd with rfl | rfl
    · by_cases e : j = i <;> simp [e]
    · by_cases e : j = i <;> simp [e]
  exact ⟨⟨h1.gm, h1.sound, h1.still, fun d j hd hj => by rw [← hr d j hd]; exact h1.read d j hd hj, fun d j hd hj => by rw [← hr d j hd]; exact h1.size d j hd hj⟩, by rw [r1, r0]; omega⟩
theorem W2.imgs (h : W2 c M rd) {i : Nat} (hi : i < 16) : M.imgs i = [rd 0 i, rd 1 i] := by
  unfold Mi.imgs
  rw [h.read 0 i (by decide) hi, h.read 1 i (by decide) hi]
  rfl
/-- Each copy is the good one, or no image; one is good at least. -/
def Half (rd : Nat → Nat → ByteArray) (r : Nat → ByteArray) : Prop := ∀ i, i < 16 → (∀ s, s < 2 → rd s i = r i ∨ openL (rd s i).toList = none) ∧ (rd 0 i = r i ∨ rd 1 i = r i)
theorem Half.heal {r : Nat → ByteArray} (h : Half rd r) (i : Nat) : Half (healR rd i (r i)) r := fun j hj => by
  unfold healR
  by_cases e : j = i
  · subst e
    simp
  · simp only [if_neg e]
    exact h j hj
/-- One copy of each of so many blocks is damaged. -/
def OneBad (rd : Nat → Nat → ByteArray) (r : Nat → ByteArray) (i : Nat) : Prop := (rd 0 i = r i ∧ ¬ rd 1 i = r i) ∨ (¬ rd 0 i = r i ∧ rd 1 i = r i)
theorem W2.opens {r : Nat → ByteArray} : ∀ (rs : List (List UpdE)) {c : Nat} {M : Mi} {rd : Nat → Nat → ByteArray} {L0 : LogE}, W2 c M rd → Half rd r → (∀ i, i < 16 → (r i).size = 192) → RecsIn r L0 rs → L0.first + L0.count ≤ 16 → rs.length ≤ L0.count → 0 < L0.count →
    (∀ j, j < rs.length → OneBad rd r (L0.block (L0.next + j))) →
    ((L0.tooks rs).have_ = (L0.tooks rs).count ∨ (L0.tooks rs).have_ < (L0.tooks rs).count ∧ (L0.tooks rs).block (L0.tooks rs).next < 16 ∧ NoRec (L0.tooks rs) (r ((L0.tooks rs).block (L0.tooks rs).next))) →
    c + 2 * rs.length ≤ 600000 → M.reps + rs.length < 900000000 →
    ∃ M' rd', Opens 16 192 M L0 rs M' (L0.tooks rs) ∧ W2 (c + 2 * rs.length) M' rd' ∧ M'.reps = M.reps + rs.length ∧ (∀ j, j < rs.length → ∀ s, s < 2 → rd' s (L0.block (L0.next + j)) = r (L0.block (L0.next + j))) ∧ ∀ i, (∀ j, j < rs.length → i ≠ L0.block (L0.next + j)) → ∀ s, s < 2 → rd' s i = rd s i
  | [], c, M, rd, L0, h, hh, hz, _, _, _, _, _, he, hc, _ => by
    refine ⟨M, rd, ⟨rfl, rfl, ?_⟩, h, rfl, fun j hj => absurd hj (Nat.not_lt_zero _), fun _ _ _ _ => rfl⟩
    rcases he with he | ⟨h1, h2, h3⟩
    · exact .inl he
    · refine .inr ⟨h1, c, h.fine, by simpa using hc, fun y hy => ?_⟩
      change y ∈ M.imgs (L0.block L0.next) at hy
      rw [h.imgs (i := L0.block L0.next) h2] at hy
      have key : ∀ s, s < 2 → NoRec L0 (rd s (L0.block L0.next)) := fun s hs => by
        rcases (hh _ h2).1 s hs with e | e
        · change rd s (L0.block L0.next) = r (L0.block L0.next) at e
          rw [e]; exact h3
        · exact .inl e
      rcases List.mem_cons.1 hy with rfl | hy
      · exact key 0 (by decide)
      · rw [List.mem_singleton.1 hy]; exact key 1 (by decide)
  | us :: rs, c, M, rd, L0, h, hh, hz, ⟨k1, k2, k3, k4, k5, k6, k7, k8⟩, hf, hlen, hcount, hone, he, hc, hr => by
    simp only [List.length_cons] at hlen hc hr hone
    obtain ⟨B, hB⟩ : ∃ B, L0.block L0.next = B := ⟨_, rfl⟩
    have h0 := hone 0 (by omega)
    rw [Nat.add_zero] at h0
    rw [hB] at k1 k7 h0
    have hY : (r B).size = 192 := hz B k7
    obtain ⟨g1, g2⟩ := h.heal k7 hY
    have hrep : (if rd 0 B = r B then 0 else 1) + (if rd 1 B = r B then 0 else 1) = 1 := by
      rcases h0 with ⟨e1, e2⟩ | ⟨e1, e2⟩
      · rw [if_pos e1, if_neg e2]
      · rw [if_neg e1, if_pos e2]
    rw [hrep] at g2
    have hblk : ∀ j, j + 1 < rs.length + 1 → L0.block (L0.next + (j + 1)) ≠ B := fun j hj => by
      rw [← hB]
      unfold LogE.block
      exact fun e => block_ne (f := L0.first) (c := L0.count) (a := L0.next) (b := L0.next + (j + 1)) (by omega) (by omega) e.symm
    obtain ⟨M', rd', q1, q2, q3, q4, q5⟩ := W2.opens rs (L0 := L0.took us) g1 (hh.heal B) hz k8 hf (by show rs.length ≤ L0.count; omega) hcount (fun j hj => by
      show OneBad (healR rd B (r B)) r (L0.block (L0.next + 1 + j))
      have h1 := hone (j + 1) (by omega)
      have h2 := hblk j (by omega)
      rw [show L0.next + 1 + j = L0.next + (j + 1) by omega]
      unfold OneBad healR at *
      simp only [if_neg h2]
      exact h1) he (by omega) (by omega)
    refine ⟨M', rd', ⟨k5, k6, ?_⟩, by rw [show c + 2 * (us :: rs).length = c + 2 + 2 * rs.length by simp; omega]; exact q2, by rw [q3, g2, List.length_cons]; omega, fun j hj s hs => ?_, fun i hi s hs => ?_⟩
    · rw [hB]
      have himg := h.imgs k7
      rcases h0 with ⟨e1, e2⟩ | ⟨e1, e2⟩
      · exact ⟨c, [], r B, [rd 1 B], h.fine, by omega, by omega, hY, by rw [himg, e1]; rfl, fun v hv => (by cases hv), k1, k2, k3, k4, q1⟩
      · refine ⟨c, [rd 0 B], r B, [], h.fine, by omega, by omega, hY, by rw [himg, e2]; rfl, fun v hv => ?_, k1, k2, k3, k4, q1⟩
        rw [List.mem_singleton.1 hv]
        rcases (hh B k7).1 0 (by decide) with e | e
        · exact absurd e e1
        · exact .inl e
    · rcases j with _ | j
      · rw [Nat.add_zero, hB]
        rw [q5 B (fun j hj e => hblk j (by omega) (by rw [e]; show L0.block _ = L0.block (L0.next + 1 + j); congr 1; omega)) s hs]
        unfold healR
        rw [if_pos rfl]
      · have h1 := q4 j (by simp at hj; omega) s hs
        rw [show L0.next + (j + 1) = (L0.took us).next + j by show _ = L0.next + 1 + j; omega]
        exact h1
    · rw [q5 i (fun j hj e => hi (j + 1) (by simp; omega) (by rw [e]; show L0.block (L0.next + 1 + j) = L0.block (L0.next + (j + 1)); congr 1; omega)) s hs]
      unfold healR
      rw [if_neg (by have := hi 0 (by simp); rw [Nat.add_zero, hB] at this; exact this)]
end
/-- A record's image that is garbled behind its head is none. -/
theorem turn_none {X : ByteArray} {k : Nat} {y : UInt8} (hk : 24 ≤ k) (hl : k < X.size) (hy : y ≠ 0) {h : EHead} {l : List UInt8} (ho : openL X.toList = some (h, l)) : openL (turnB X k y).toList = none := by
  cases e : openL (turnB X k y).toList with
  | none => rfl
  | some q =>
    exfalso
    obtain ⟨h2, l2⟩ := q
    obtain ⟨a1, a2, _, _⟩ := open_bare ho
    obtain ⟨b1, b2, _, _⟩ := open_bare e
    have hset : ∀ m n, m + n ≤ k → ((X.toList.set k (X.toList.getD k 0 ^^^ y)).drop m).take n = (X.toList.drop m).take n := fun m n hmn => by
      rw [List.drop_set, if_neg (by omega), List.take_set_of_le (by omega)]
    have hhd : eHeadOf (turnB X k y).toList = eHeadOf X.toList := by
      rw [turnB_list]
      unfold eHeadOf
      rw [hset 4 1 (by omega), hset 8 4 (by omega), hset 12 8 (by omega)]
    have hsm : eSumOf (turnB X k y).toList = eSumOf X.toList := by
      rw [turnB_list]
      unfold eSumOf
      rw [hset 20 4 (by omega)]
    have m1 : meetsL ⟨h.addr, h.gen, eSumOf X.toList⟩ X.toList = true := by
      unfold meetsL
      rw [ho]
      simp
    have m2 : meetsL ⟨h.addr, h.gen, eSumOf X.toList⟩ (turnB X k y).toList = true := by
      unfold meetsL
      rw [e]
      simp only
      rw [b1, hhd, ← a1, hsm]
      simp
    exact turnB_ne hl hy (turnB_meets m1 m2)
end Go.Proofs.YtnpfhfgegjocoaaGreat
