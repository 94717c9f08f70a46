/- RemapKeeps: what the walk keeps. -/
import Derived.Test.YtnpfhfgegjocoaaMG
import Derived.Test.YtnpfhfgegjocoaaMF
/- Arguments: the acts of layer 7's laws. -/
namespace Go.Proofs.Ytnpfhfgegjocoaa
open Go.ChangeShapes Go.WideShapes Go.ChangeAt Go.RowKit

structure Act7 where
  do_ : Int
  side : Int
  block : Int
  data : ByteArray
def acells7 (a : Act7) : List Value := [.int .i64 a.do_, .int .i64 a.side, .int .i64 a.block, .string a.data]
def aRow7 (l : List Act7) : List Value := l.flatMap acells7
theorem acells7_len (a : Act7) : (acells7 a).length = 4 := rfl
instance : Inhabited Act7 := ⟨⟨0, 0, 0, ⟨#[]⟩⟩⟩
theorem cellsAct7 : Try.prog.cellsOf 30 = 4 := by kernel_rfl
theorem cellsInt7 : Try.prog.cellsOf 3 = 1 := by kernel_rfl
theorem cellsStr7 : Try.prog.cellsOf 9 = 1 := by kernel_rfl
def act7Q (a : Act7) {H : Type} (d : DataW H) : Prop := d = .agg [.lit (.int .i64 a.do_), .lit (.int .i64 a.side), .lit (.int .i64 a.block), .lit (.string a.data.data.toList)]
set_option maxRecDepth 100000 in
theorem act7_mk {H : Type} {enc : TypeId × Value → H} {W : World} {n : Nat} {cs : List Value} {y : DataW H × List MemPlace} (h : DataW.trod enc Try.prog W 0 (fun _ => true) true n 30 cs = some y) (hl : cs.length = 4) : ∃ a : Act7, cs = acells7 a ∧ act7Q a y.1 := by
  obtain ⟨xs, m, _, hy, _, hxl, hf⟩ := DataW.trod_struct Try.underlying30 h
  match cs, hl with
  | [c0, c1, c2, c3], _ =>
    match xs, hxl with
    | [y0, y1, y2, y3], _ =>
      have g0 := hf 0 _ rfl
      have g1 := hf 1 _ rfl
      have g2 := hf 2 _ rfl
      have g3 := hf 3 _ rfl
      simp [cellsInt7, cellsStr7] at g0 g1 g2 g3
      obtain ⟨a0, e0, f0, w0⟩ := DataW.trod_int Try.underlying3 g0
      obtain ⟨a1, e1, f1, w1⟩ := DataW.trod_int Try.underlying3 g1
      obtain ⟨a2, e2, f2, w2⟩ := DataW.trod_int Try.underlying3 g2
      obtain ⟨s3, e3, f3, _⟩ := DataW.trod_string Try.underlying9 g3
      simp at e0 e1 e2 e3
      subst e0 e1 e2 e3 f0 f1 f2 f3
      refine ⟨⟨a0, a1, a2, s3⟩, rfl, ?_⟩
      unfold act7Q
      rw [hy]; rfl
theorem act7_size {H : Type} {a : Act7} {d : DataW H} {L : List Nat} (hq : act7Q a d) (hw : ∀ n ∈ d.weights Try.prog 30, n ∈ L) (hL : ∀ n ∈ L, n ≤ reachBytes) : a.data.size ≤ 140737488351232 := by
  unfold act7Q at hq
  subst hq
  rw [reach_eq] at hL
  obtain ⟨fs, hu, ht⟩ : ∃ fs, Try.prog.underlying 30 = some (.struct fs) ∧ fs.toList.map (·.type) = [3, 3, 3, 9] := ⟨_, Try.underlying30, rfl⟩
  refine hL _ (hw _ ?_)
  simp only [DataW.weights, hu, ht, DataW.weightsEach, List.mem_append, List.mem_singleton, Array.length_toList]
  simp
set_option maxRecDepth 100000 in
theorem acts7_open {H : Type} {enc : TypeId × Value → H} {W : World} {base : Nat} {v : Value} {d : DataW H} {p : List MemPlace} (hv : Value.okWide Try.prog W .any base 22 v) (hj : DataW.Trod enc Try.prog W 0 (fun _ => true) true 22 v d p) (hsz : ∀ n ∈ d.weights Try.prog 22, n ≤ reachBytes) :
    ∃ (A : Option Addr) (len cap : Nat) (zs : List Act7), v = .slice A len cap ∧ Row W A (aRow7 zs) ∧ zs.length = len ∧ len ≤ cap ∧ cap ≤ maxLen ∧ ∀ z ∈ zs, z.data.size ≤ 140737488351232 := by
  obtain ⟨a0, len, cap, rfl⟩ := okWide_slice Try.underlying22 hv
  obtain ⟨fuel, hfu⟩ := hj
  obtain ⟨A, len, cap, zs, h1, h2, h3, h4, h5, h6⟩ := structs_core (c := .slice a0 len cap) 4 (by omega) acells7 (fun u d => act7Q u d) acells7_len Try.underlying22 cellsAct7 (fun _ _ _ h hl => act7_mk h hl) hfu
  refine ⟨A, len, cap, zs, h1, h2, h3, h4, h5, fun z hz => ?_⟩
  obtain ⟨y, hy, hw⟩ := h6 z hz
  exact act7_size hy hw hsz
theorem aRow7_at {w : World} {A : Option Addr} {R : List Act7} (h : Row w A (aRow7 R)) {i : Nat} {x : Act7} (hx : R[i]? = some x) : ∃ b off, A = some ⟨b, off, none⟩ ∧ w.cell? ⟨b, off + i * 4, none⟩ = some (.int .i64 x.do_) ∧ w.cell? ⟨b, off + i * 4 + 1, none⟩ = some (.int .i64 x.side) ∧
    w.cell? ⟨b, off + i * 4 + 2, none⟩ = some (.int .i64 x.block) ∧ w.cell? ⟨b, off + i * 4 + 3, none⟩ = some (.string x.data) := by
  have g := fun (j : Nat) (hj : j < 4) => flat_get acells7 acells7_len hx hj
  rcases h with h | ⟨b, off, h1, h2⟩
  · have := g 0 (by omega)
    rw [show R.flatMap acells7 = aRow7 R from rfl, h] at this
    simp [acells7] at this
  · refine ⟨b, off, h1, ?_, ?_, ?_, ?_⟩
    · exact h2 (i * 4) _ ((g 0 (by omega)).trans rfl)
    · rw [Nat.add_assoc]; exact h2 (i * 4 + 1) _ ((g 1 (by omega)).trans rfl)
    · rw [Nat.add_assoc]; exact h2 (i * 4 + 2) _ ((g 2 (by omega)).trans rfl)
    · rw [Nat.add_assoc]; exact h2 (i * 4 + 3) _ ((g 3 (by omega)).trans rfl)
end Go.Proofs.Ytnpfhfgegjocoaa
/- RemapKeeps, plainly: what is known of the blocks stays true. -/
namespace Go.Proofs.Ytnpfhfgegjocoaa
open Go.RowKit

/-- What was written last to blocks, where it is known: side and block. -/
abbrev Kn := Nat → Nat → Option ByteArray
def Kn.put (K : Kn) (s i : Nat) (v : ByteArray) : Kn := fun a c => if a = s ∧ c = i then some v else K a c
def Kn.del (K : Kn) (s i : Nat) : Kn := fun a c => if a = s ∧ c = i then none else K a c
/-- It is what is read. -/
def Reads (P : Pr) (K : Kn) : Prop := ∀ s i v, s < 2 → i < 12 → K s i = some v → P.read s (i : Int) = (v, 0)
theorem Reads.del {P : Pr} {K : Kn} (h : Reads P K) (s i : Nat) : Reads P (K.del s i) := by
  intro a c v ha hc hk
  unfold Kn.del at hk
  split at hk
  · cases hk
  · exact h a c v ha hc hk
theorem Reads.stay {P P' : Pr} {K : Kn} (h : Reads P K) (he : ∀ (s i : Nat), s < 2 → i < 12 → P'.read s (i : Int) = P.read s (i : Int)) : Reads P' K := fun a c v ha hc hk => (he a c ha hc).trans (h a c v ha hc hk)
theorem Reads.flush {P P' : Pr} {K : Kn} (h : Reads P K) (g : Gd P) (g' : Gd P') (ht : P'.tab = P.tab) (st : Stays P P' (fun _ _ => True)) : Reads P' K :=
  h.stay fun s i hs hi => stay_read g g' st hs hi (by rw [ht]) trivial
/-- A move. -/
theorem Reads.move {P P' : Pr} {K : Kn} (h : Reads P K) (g : Gd P) (g' : Gd P') {s i : Nat} (ht : P'.tab = fun j => if j = s then { P.tab s with moved := (P.tab s).moved ++ [i] } else P.tab j) (st : Stays P P' (fun _ j => 4 ≤ j)) : Reads P' (K.del s i) := by
  intro a c v ha hc hk
  unfold Kn.del at hk
  split at hk
  · cases hk
  · rename_i hne
    refine (stay_read g g' st ha hc ?_ (by omega)).trans (h a c v ha hc hk)
    rw [ht]
    simp only
    by_cases e : a = s
    · subst e
      rw [if_pos rfl, Tab.at_moved (by rw [g.blocks ha]; exact hc), if_neg (fun e => hne ⟨rfl, e.symm⟩)]
    · rw [if_neg e]
/-- A sector that is bad from now on. -/
theorem Reads.stick {P P' : Pr} {K : Kn} (h : Reads P K) (g : Gd P) (g' : Gd P') {s i : Nat} (hi : i < 12) (ht : P'.tab = P.tab) (st : Stays P P' (fun d j => d = s → j ≠ ((P.tab s).at_ (i : Int)).1 + 4)) : Reads P' (K.del s i) := by
  intro a c v ha hc hk
  unfold Kn.del at hk
  split at hk
  · cases hk
  · rename_i hne
    refine (stay_read g g' st ha hc (by rw [ht]) (fun e hj => ?_)).trans (h a c v ha hc hk)
    subst e
    have h1 := Tab.at_inj (t := P.tab a) (i := c) (j := i) (by rw [g.blocks ha]; exact hc) (by rw [g.blocks ha]; exact hi) (by omega)
    exact hne ⟨rfl, h1⟩
theorem write_other {P P' : Pr} (g : Gd P) (g' : Gd P') {s i m : Nat} (hi : i < 12) (ht : P'.tab = fun j => if j = s then (P.tab s).moves m i else P.tab j)
  (st : Stays P P' (fun d j => 4 ≤ j ∧ (d = s → j ≠ ((P'.tab s).at_ (i : Int)).1 + 4))) {a c : Nat} (ha : a < 2) (hc : c < 12) (hne : ¬(a = s ∧ c = i)) : P'.read a (c : Int) = P.read a (c : Int) := by
  have hat : (P'.tab a).at_ (c : Int) = (P.tab a).at_ (c : Int) := by
    rw [ht]
    simp only
    by_cases e : a = s
    · subst e
      rw [if_pos rfl]
      exact Tab.at_moveds (by rw [g.blocks ha]; exact hc) (fun e => hne ⟨rfl, e.symm⟩) m
    · rw [if_neg e]
  refine stay_read g g' st ha hc hat ⟨by omega, fun e hj => ?_⟩
  subst e
  rw [← hat] at hj
  have h1 := Tab.at_inj (t := P'.tab a) (i := c) (j := i) (by rw [g'.blocks ha]; exact hc) (by rw [g'.blocks ha]; exact hi) (by omega)
  exact hne ⟨rfl, h1⟩
/-- A block is written. -/
theorem Reads.write {P P' : Pr} {K : Kn} (h : Reads P K) (g : Gd P) (g' : Gd P') {s i m : Nat} {x : ByteArray} (hi : i < 12) (ht : P'.tab = fun j => if j = s then (P.tab s).moves m i else P.tab j)
    (st : Stays P P' (fun d j => 4 ≤ j ∧ (d = s → j ≠ ((P'.tab s).at_ (i : Int)).1 + 4))) (hr : P'.read s (i : Int) = (x, 0)) : Reads P' (K.put s i x) := by
  intro a c v ha hc hk
  unfold Kn.put at hk
  split at hk
  · rename_i e
    obtain ⟨rfl, rfl⟩ := e
    injection hk with hk
    rw [← hk]; exact hr
  · rename_i hne
    exact (write_other g g' hi ht st ha hc hne).trans (h a c v ha hc hk)
/-- A block couldn't be written. -/
theorem Reads.fail {P P' : Pr} {K : Kn} (h : Reads P K) (g : Gd P) (g' : Gd P') {s i m : Nat} (hs : s < 2) (hi : i < 12) (ht : P'.tab = fun j => if j = s then (P.tab s).moves m i else P.tab j)
    (st : Stays P P' (fun d j => 4 ≤ j ∧ (d = s → j ≠ ((P'.tab s).at_ (i : Int)).1 + 4))) (hr : (P.read s (i : Int)).2 = 7) : Reads P' K := by
  intro a c v ha hc hk
  by_cases e : a = s ∧ c = i
  · obtain ⟨rfl, rfl⟩ := e
    rw [h a c v hs hc hk] at hr
    cases hr
  · exact (write_other g g' hi ht st ha hc e).trans (h a c v ha hc hk)
theorem Reads.opened {P : Pr} {K : Kn} (h : Reads P K) : Reads (openP P) K := h.stay fun _ _ hs _ => open_read hs _
end Go.Proofs.Ytnpfhfgegjocoaa
namespace Go.Proofs.Ytnpfhfgegjocoaa
open Go.RowKit

def kvA (k : Fin 24) : Value := .agg #[.int .i64 ((k.val / 12 : Nat) : Int), .int .i64 ((k.val % 12 : Nat) : Int)]
theorem kvA_inj (a c : Fin 24) (h : kvA a = kvA c) : a = c := by
  unfold kvA at h
  injection h with h
  have h2 := congrArg Array.toList h
  simp only [List.cons.injEq, Value.int.injEq, true_and, and_true] at h2
  obtain ⟨h3, h4⟩ := h2
  apply Fin.ext
  omega
theorem kvA_key : ∀ k : Fin 24, (keyOf Try.prog 32 (kvA k)).isSome = true := by
  decide +kernel
theorem kvA_law : KLaw Try.prog 32 kvA := KLaw.of (WideMaps.ArrKey.law (e := 3) (n := 2) ⟨Try.underlying32, by kernel_rfl, by kernel_rfl, by kernel_rfl⟩) (fun k => Option.isSome_iff_exists.1 (kvA_key k)) kvA_inj
/-- A block's key. -/
def kAt (s i : Nat) (hs : s < 2) (hi : i < 12) : Fin 24 := ⟨s * 12 + i, by omega⟩
theorem kvA_at (s i : Nat) (hs : s < 2) (hi : i < 12) : kvA (kAt s i hs hi) = .agg #[.int .i64 (s : Nat), .int .i64 (i : Nat)] := by
  unfold kvA kAt
  rw [show (s * 12 + i) / 12 = s by omega, show (s * 12 + i) % 12 = i by omega]
def knF (K : Kn) : Fin 24 → Option Value := fun k => (K (k.val / 12) (k.val % 12)).map Value.string
theorem knF_put (K : Kn) (s i : Nat) (hs : s < 2) (hi : i < 12) (v : ByteArray) : putF (knF K) (kAt s i hs hi) (.string v) = knF (K.put s i v) := by
  funext k
  unfold putF knF Kn.put kAt
  by_cases h : k.val / 12 = s ∧ k.val % 12 = i
  · rw [if_pos h, if_pos (Fin.ext (by show k.val = s * 12 + i; omega))]; rfl
  · rw [if_neg h, if_neg (fun e => h (by
      have := congrArg Fin.val e
      simp only at this
      omega))]
theorem knF_del (K : Kn) (s i : Nat) (hs : s < 2) (hi : i < 12) : delF (knF K) (kAt s i hs hi) = knF (K.del s i) := by
  funext k
  unfold delF knF Kn.del kAt
  by_cases h : k.val / 12 = s ∧ k.val % 12 = i
  · rw [if_pos h, if_pos (Fin.ext (by show k.val = s * 12 + i; omega))]; rfl
  · rw [if_neg h, if_neg (fun e => h (by
      have := congrArg Fin.val e
      simp only at this
      omega))]
/-- What the rounds keep: what the map tells, and what is read. -/
structure KIn (W w : World) (x : Nat → Nat) (bm b : Nat) (fx : Nat → List Nat) (gp : List Nat) (P : Pr) (K K' : Kn) (j : Nat) : Prop where
  own : Own W w x fx b gp P
  map : ∃ n, MapK kvA w bm (knF K) n
  reads : Reads P K'
  few : Few P j
  offF : ∀ k, k < 2 → bm ∉ fx k
  offG : bm ∉ gp
  bml : W.heap.size ≤ bm
def KW (W w : World) (x : Nat → Nat) (bm b j : Nat) : Prop := ∃ fx gp P K, KIn W w x bm b fx gp P K K j
section
variable {W w w' : World} {x : Nat → Nat} {bm b j j' : Nat} {fx fx' : Nat → List Nat} {gp gp' : List Nat} {P P' : Pr} {K K' K'' : Kn}
theorem KIn.still (h : KIn W w x bm b fx gp P K K' j) (hm : Mods [] w w') : KIn W w' x bm b fx gp P K K' j :=
  ⟨h.own.still hm, h.map.elim fun n hn => ⟨n, hn.keep hm (by simp)⟩, h.reads, h.few, h.offF, h.offG, h.bml⟩
theorem KIn.off (h : KIn W w x bm b fx gp P K K' j) : bm ∉ b :: (fx 0 ++ fx 1) := by
  intro hx
  rcases List.mem_cons.1 hx with e | hx
  · exact h.offG (by rw [e]; exact h.own.pair.at_b)
  · rcases List.mem_append.1 hx with hx | hx
    · exact h.offF 0 (by decide) hx
    · exact h.offF 1 (by decide) hx
theorem KIn.lt (h : KIn W w x bm b fx gp P K K' j) : bm < w.heap.size := h.map.elim fun _ hn => hn.lt
theorem KIn.foot (h : KIn W w x bm b fx gp P K K' j) : w.heap.size ∉ b :: (fx 0 ++ fx 1) := by
  intro hx
  rcases List.mem_cons.1 hx with e | hx
  · have := h.own.pair.pb.lt _ (by rw [e]; exact h.own.pair.at_b : w.heap.size ∈ gp)
    omega
  · rcases List.mem_append.1 hx with hx | hx
    · have := (h.own.pair.dev 0 (by decide)).lt _ hx; omega
    · have := (h.own.pair.dev 1 (by decide)).lt _ hx; omega
/-- The pair turned. -/
theorem KIn.to (h : KIn W w x bm b fx gp P K K' j) (g : PairTo w w' b gp gp' x fx fx' P') (hg : Gd P') (hf : Few P' j') (hr : Reads P' K'') : KIn W w' x bm b fx' gp' P' K K'' j' := by
  have hlt := h.lt
  refine ⟨h.own.to g hg, h.map.elim fun n hn => ⟨n, hn.keep g.mods h.off⟩, hr, hf, fun k hk hx => ?_, fun hx => ?_, h.bml⟩
  · rcases g.newF k hk _ hx with h1 | h1
    · exact h.offF k hk h1
    · omega
  · rcases g.newG _ hx with h1 | h1
    · exact h.offG h1
    · omega
/-- The map turned. -/
theorem Own.mapped (h : Own W w x fx b gp P) (hF : ∀ k, k < 2 → bm ∉ fx k) (hG : bm ∉ gp) (hb : W.heap.size ≤ bm) (hm : Mods [bm] w w') : Own W w' x fx b gp P :=
  ⟨h.pair.keep hm (fun g hg hx => hG (by rw [← List.mem_singleton.1 hx]; exact hg)) (fun s hs g hg hx => hF s hs (by rw [← List.mem_singleton.1 hx]; exact hg)), h.gd, h.newF, h.newG, h.mods.trans hm (fun k hk => .inr (by rw [List.mem_singleton.1 hk]; exact hb))⟩
/-- What is known of a block is struck. -/
theorem KIn.strike {s i : Nat} (h : KIn W w x bm b fx gp P K (K.del s i) j) (hs : s < 2) (hi : i < 12) :
    ∃ w1, (∀ ty, (Builtin.delete_ #[28, 32] ty #[.map (some bm), .agg #[.int .i64 (s : Nat), .int .i64 (i : Nat)]]).run Try.prog w = .ok (.tuple #[]) w1) ∧ Hid (KIn W w1 x bm b fx gp P (K.del s i) (K.del s i) j) := by
  obtain ⟨n, hn⟩ := h.map
  obtain ⟨w1, h1, h2, h3, _⟩ := hn.deleteL kvA_law Try.underlying28 (kAt s i hs hi)
  rw [kvA_at] at h1
  rw [knF_del] at h2
  exact ⟨w1, h1, ⟨h.own.mapped h.offF h.offG h.bml h3, ⟨_, h2⟩, h.reads, h.few, h.offF, h.offG, h.bml⟩⟩
/-- .. is put. -/
theorem KIn.stored {s i : Nat} {v : ByteArray} (h : KIn W w x bm b fx gp P K (K.put s i v) j) (hs : s < 2) (hi : i < 12) :
    ∃ w1, (Instr.mapUpdate 28 (.map (some bm)) (.agg #[.int .i64 (s : Nat), .int .i64 (i : Nat)]) (.string v)).run Try.prog w = .ok () w1 ∧ Hid (KIn W w1 x bm b fx gp P (K.put s i v) (K.put s i v) j) := by
  obtain ⟨n, hn⟩ := h.map
  obtain ⟨w1, h1, h2, h3, _⟩ := hn.updateL kvA_law Try.underlying28 (kAt s i hs hi) (.string v)
  rw [kvA_at] at h1
  rw [knF_put] at h2
  exact ⟨w1, h1, ⟨h.own.mapped h.offF h.offG h.bml h3, ⟨_, h2⟩, h.reads, h.few, h.offF, h.offG, h.bml⟩⟩
/-- The acts. -/
theorem kMove (h : KIn W w x bm b fx gp P K K j) (hj : j ≤ 900000) {s i : Nat} (hs : s < 2) (hi : i < 12) {L : Nat} (hL : (P.tab s).spares - (P.tab s).moved.length = L) :
    Calls Try.prog 12 #[.pointer (some ⟨b, 0, none⟩), .int .i64 (s : Nat), .int .i64 (i : Nat)] w fun e w' => ∃ (c : Nat) (fx' : Nat → List Nat) (gp' : List Nat) (P' : Pr), e = .returned (.int .i64 (c : Nat)) ∧ Hid (c = 0 ∧ 0 < L ∧ KIn W w' x bm b fx' gp' P' K (K.del s i) (j + 1) ∨ c = 9 ∧ L = 0 ∧ KIn W w' x bm b fx' gp' P' K K (j + 1)) ∧ Hid (Mods (b :: (fx 0 ++ fx 1)) w w') := by
  refine (gMove h.own.pair h.own.gd hs hi (h.few.mono hj)).mono fun e w' ⟨c, P', gp', fx', h1, h2, h3, h4⟩ => ⟨c, fx', gp', P', h1, ?_, h2.out.mods⟩
  rw [h.own.gd.spares hs] at hL
  rcases h4.out with ⟨e1, m1, m2, m3, m4⟩ | ⟨e1, m1, e2⟩
  · exact .inl ⟨e1, by omega, h.to h2.out h3.out ((few0 m4).mono (Nat.zero_le _)) (h.reads.move h.own.gd h3.out m2 m3)⟩
  · subst e2
    exact .inr ⟨e1, by omega, h.to h2.out h3.out (h.few.mono (Nat.le_succ _)) h.reads⟩
theorem kStick (h : KIn W w x bm b fx gp P K K j) (hj : j ≤ 900000) {s i : Nat} (hs : s < 2) (hi : i < 12) :
    Calls Try.prog 15 #[.pointer (some ⟨x s, 0, none⟩), .int .i64 ((((P.tab s).at_ (i : Int)).1 + 4 : Nat) : Int)] w fun e w' => ∃ (P' : Pr), e = .returned (.tuple #[]) ∧ Hid (KIn W w' x bm b fx gp P' K (K.del s i) (j + 1)) ∧ Hid (P'.read s (i : Int) = (⟨#[]⟩, 7)) ∧ Hid (Mods (b :: (fx 0 ++ fx 1)) w w') := by
  refine (gStick h.own.pair h.own.gd hs (by omega) (h.own.gd.at_lt hs hi) (h.few.mono hj)).mono fun e w' ⟨P', h1, h2, h3, h4, h5, h6, h7⟩ => ⟨P', h1, ?_, ?_, h2.out.mods⟩
  · exact h.to h2.out h3.out (fun d hd => Nat.le_trans (h7.out d hd) (Nat.le_succ_of_le (h.few d hd))) (h.reads.stick h.own.gd h3.out hi h4.out h5.out)
  · exact bad_read h3.out hs hi (by rw [h4.out]; exact h6.out)
theorem kFlush (h : KIn W w x bm b fx gp P K K j) (hj : j ≤ 900000) {s : Nat} (hs : s < 2) :
    Calls Try.prog 17 #[.pointer (some ⟨b, 0, none⟩), .int .i64 (s : Nat)] w fun e w' => ∃ (fx' : Nat → List Nat) (P' : Pr), e = .returned (.int .i64 0) ∧ Hid (KIn W w' x bm b fx' gp P' K K (j + 1)) := by
  refine (gFlush h.own.pair h.own.gd hs (h.few.mono hj)).mono fun e w' ⟨P', fx', h1, h2, h3, h4, h5, h6⟩ => ⟨fx', P', h1, ?_⟩
  exact h.to h2.out h3.out (fun d hd => Nat.le_trans (h6.out d hd) (Nat.le_succ_of_le (h.few d hd))) (h.reads.flush h.own.gd h3.out h4.out h5.out)
theorem kRead (h : KIn W w x bm b fx gp P K K' j) (hj : j ≤ 900000) {s i : Nat} (hs : s < 2) {v : ByteArray} {c : Nat} (hr : P.read s (i : Int) = (v, c)) :
    Calls Try.prog 16 #[.pointer (some ⟨b, 0, none⟩), .int .i64 (s : Nat), .int .i64 (i : Nat)] w fun e w' => e = .returned (.tuple #[.string v, .int .i64 (c : Nat)]) ∧ Hid (KIn W w' x bm b fx gp P K K' j) ∧ Hid (Mods (fx 0 ++ fx 1) w w') := by
  refine (gRead h.own.pair hs (i : Int) (h.few.mono hj)).mono fun e w' ⟨h1, h2, h3⟩ => ?_
  rw [hr] at h1
  have ho := h.off
  rw [List.mem_cons, not_or] at ho
  exact ⟨h1, ⟨h.own.same h2.out h3.out, h.map.elim fun n hn => ⟨n, hn.keep h3.out ho.2⟩, h.reads, h.few, h.offF, h.offG, h.bml⟩, h3⟩
theorem kWrite (h : KIn W w x bm b fx gp P K K j) (hj : j ≤ 900000) {s i : Nat} (hs : s < 2) (hi : i < 12) {img : ByteArray} (hx : img.size = 128) :
    Calls Try.prog 20 #[.pointer (some ⟨b, 0, none⟩), .int .i64 (s : Nat), .int .i64 (i : Nat), .string img] w fun e w' => ∃ (c : Nat) (fx' : Nat → List Nat) (gp' : List Nat) (P' : Pr), e = .returned (.int .i64 (c : Nat)) ∧ Hid (c = 0 ∧ KIn W w' x bm b fx' gp' P' K (K.put s i img) (j + 1) ∨ c = 9 ∧ (P'.tab s).spares - (P'.tab s).moved.length = 0 ∧ KIn W w' x bm b fx' gp' P' K K (j + 1)) ∧ Hid (Mods (b :: (fx 0 ++ fx 1)) w w') := by
  refine (gWrite h.own.pair h.own.gd hs hi (h.few.mono hj) hx).mono fun e w' ⟨c, P', gp', fx', m, h1, h2, h3, h4, h5, h6, h7, _⟩ => ⟨c, fx', gp', P', h1, ?_, h2.out.mods⟩
  have hf : Few P' (j + 1) := fun d hd => Nat.le_trans (h7.out d hd) (Nat.add_le_add_right (h.few d hd) 1)
  rcases h6.out with ⟨e1, m1⟩ | ⟨e1, m1, m2⟩
  · exact .inl ⟨e1, h.to h2.out h3.out hf (h.reads.write h.own.gd h3.out hi h4.out h5.out m1)⟩
  · exact .inr ⟨e1, by rw [h3.out.spares hs, m1], h.to h2.out h3.out hf (h.reads.fail h.own.gd h3.out hs hi h4.out h5.out m2)⟩
theorem kOpen (h : KIn W w x bm b fx gp P K K j) (hj : j ≤ 900000) :
    Calls Try.prog 18 #[.pointer (some ⟨x 0, 0, none⟩), .pointer (some ⟨x 1, 0, none⟩), .int .i64 4] w fun e w' => ∃ (b' : Nat) (gp' : List Nat), e = .returned (.tuple #[.pointer (some ⟨b', 0, none⟩), .int .i64 0]) ∧ Hid (KIn W w' x bm b fx gp P K K j) ∧ Hid (KIn W w' x bm b' fx gp' (openP P) K K (j + 1)) ∧ Hid (∀ s, s < 2 → (openP P).tab s = P.tab s) := by
  refine (gOpen h.own.pair h.own.gd (h.few.mono hj)).mono fun e w' ⟨b', gp', h1, h2, h3, h4, h5, h6⟩ => ?_
  have ho := h.off
  rw [List.mem_cons, not_or] at ho
  have hmap : ∃ n, MapK kvA w' bm (knF K) n := h.map.elim fun n hn => ⟨n, hn.keep h3.out ho.2⟩
  have hlt := h.lt
  refine ⟨b', gp', h1, ?_, ⟨h.own.opened h2.out h3.out h4.out h5.out, hmap, h.reads.opened, (fun d hd => Nat.le_succ_of_le (h.few d hd)), h.offF, fun hx => by have := h4.out _ hx; omega, h.bml⟩, h6⟩
  have hfr : ∀ g ∈ gp, g ∉ fx 0 ++ fx 1 := fun g hg hx => by
    rcases List.mem_append.1 hx with hx | hx
    · exact h.own.pair.free g hg 0 (by decide) hx
    · exact h.own.pair.free g hg 1 (by decide) hx
  have hp : IsPair w' b gp x fx P := ⟨h.own.pair.pb.keep h3.out hfr, h2.out.dev, h.own.pair.apart, h.own.pair.free, h.own.pair.same, h.own.pair.fit⟩
  exact ⟨h.own.same hp h3.out, hmap, h.reads, h.few, h.offF, h.offG, h.bml⟩
/-- Something else turned. -/
theorem KIn.other {r : Nat} (h : KIn W w x bm b fx gp P K K' j) (hm : Mods [r] w w') (hF : ∀ k, k < 2 → r ∉ fx k) (hG : r ∉ gp) (hb : bm ≠ r) (hr : W.heap.size ≤ r) : KIn W w' x bm b fx gp P K K' j :=
  ⟨h.own.mapped hF hG hr hm, h.map.elim fun n hn => ⟨n, hn.keep hm (by simpa using hb)⟩, h.reads, h.few, h.offF, h.offG, h.bml⟩
/-- How many entries a range has to come, by the world. -/
def leftW (w : World) (r b : Nat) : Nat := match w.heap[r]?, w.heap[b]? with
  | some (.mapIter _ _ seen _), some (.map es _) => (leftOf es seen).size
  | _, _ => 0
theorem RangeK.leftW {κ : Type} {kv : κ → Value} {w : World} {r b : Nat} {F : κ → Option Value} {D : κ → Prop} {left : Nat} (h : RangeK kv w r b F D left) : leftW w r b = left := by
  obtain ⟨es, clock, since, seen, c0, h1, h2, h3, h4, h5, h6, h7, h8, h9, h10⟩ := h
  unfold Go.Proofs.Ytnpfhfgegjocoaa.leftW
  rw [h1, h5]; exact h10
/-- Ranging over what is known. -/
structure RIn (W w : World) (x : Nat → Nat) (bm b : Nat) (fx : Nat → List Nat) (gp : List Nat) (P : Pr) (K : Kn) (j r left : Nat) : Prop where
  kin : KIn W w x bm b fx gp P K K j
  rng : ∃ D, RangeK kvA w r bm (knF K) D left
  offF : ∀ k, k < 2 → r ∉ fx k
  offG : r ∉ gp
  ne : bm ≠ r
  rl : W.heap.size ≤ r
theorem RIn.still {r left : Nat} (h : RIn W w x bm b fx gp P K j r left) (hm : Mods [] w w') : RIn W w' x bm b fx gp P K j r left :=
  ⟨h.kin.still hm, h.rng.elim fun D hD => ⟨D, hD.keep hm (by simp) (by simp)⟩, h.offF, h.offG, h.ne, h.rl⟩
theorem KIn.range (h : KIn W w x bm b fx gp P K K j) : ∃ w1 left, (Instr.range 28 (.map (some bm))).run Try.prog w = .ok (.pointer (some ⟨w.heap.size, 0, none⟩)) w1 ∧ Hid (RIn W w1 x bm b fx gp P K j w.heap.size left) := by
  obtain ⟨n, hn⟩ := h.map
  obtain ⟨w1, h1, h2, h3, _⟩ := hn.range (P := Try.prog) Try.underlying28
  have hf := h.foot
  have hlt := h.lt
  refine ⟨w1, n, h1, ⟨h.still h3, ⟨_, h2⟩, fun k hk hx => ?_, fun hx => ?_, by omega, h.own.mods.size⟩⟩
  · have := (h.own.pair.dev k hk).lt _ hx; omega
  · have := h.own.pair.pb.lt _ hx; omega
theorem RIn.next {r left : Nat} (h : RIn W w x bm b fx gp P K j r left) :
    (left = 0 ∧ ∀ ty, (Instr.next (.pointer (some ⟨r, 0, none⟩)) false ty).run Try.prog w = .ok (.tuple #[.bool false]) w) ∨
    ∃ (s i : Nat) (v : ByteArray) (w1 : World) (left1 : Nat), s < 2 ∧ i < 12 ∧ P.read s (i : Int) = (v, 0) ∧ (∀ ty, (Instr.next (.pointer (some ⟨r, 0, none⟩)) false ty).run Try.prog w = .ok (.tuple #[.bool true, .agg #[.int .i64 (s : Nat), .int .i64 (i : Nat)], .string v]) w1) ∧
      (Instr.entry (.pointer (some ⟨r, 0, none⟩))).run Try.prog w1 = .ok (.tuple #[.agg #[.int .i64 (s : Nat), .int .i64 (i : Nat)], .string v]) w1 ∧ Hid (RIn W w1 x bm b fx gp P K j r left1) ∧ left1 < left := by
  obtain ⟨D, hD⟩ := h.rng
  rcases hD.next (P := Try.prog) kvA_inj (fun e => h.ne e.symm) 0 with ⟨h1, _, h2⟩ | ⟨a, v, w1, left1, hv, _, hrun, hent, hR1, hl, hm1, _⟩
  · exact .inl ⟨h1, fun _ => h2⟩
  · have ha := a.isLt
    unfold knF at hv
    cases hk : K (a.val / 12) (a.val % 12) with
    | none => rw [hk] at hv; cases hv
    | some u =>
      rw [hk] at hv
      injection hv with hv
      subst hv
      refine .inr ⟨a.val / 12, a.val % 12, u, w1, left1, by omega, by omega, h.kin.reads _ _ _ (by omega) (by omega) hk, fun _ => hrun, hent, ⟨h.kin.other hm1 h.offF h.offG h.ne h.rl, ⟨_, hR1⟩, h.offF, h.offG, h.ne, h.rl⟩, hl⟩
theorem RIn.read {r left : Nat} (h : RIn W w x bm b fx gp P K j r left) (hj : j ≤ 900000) {s i : Nat} (hs : s < 2) {v : ByteArray} (hr : P.read s (i : Int) = (v, 0)) :
    Calls Try.prog 16 #[.pointer (some ⟨b, 0, none⟩), .int .i64 (s : Nat), .int .i64 (i : Nat)] w fun e w' => e = .returned (.tuple #[.string v, .int .i64 0]) ∧ Hid (RIn W w' x bm b fx gp P K j r left) := by
  refine (kRead h.kin hj hs hr).mono fun e w' ⟨h1, h2, h3⟩ => ⟨h1, h2.out, h.rng.elim fun D hD => ⟨D, hD.keep h3.out (fun hx => ?_) (fun hx => ?_)⟩, h.offF, h.offG, h.ne, h.rl⟩
  · rcases List.mem_append.1 hx with hx | hx
    · exact h.offF 0 (by decide) hx
    · exact h.offF 1 (by decide) hx
  · have ho := h.kin.off
    rw [List.mem_cons, not_or] at ho
    exact ho.2 hx
end
end Go.Proofs.Ytnpfhfgegjocoaa
