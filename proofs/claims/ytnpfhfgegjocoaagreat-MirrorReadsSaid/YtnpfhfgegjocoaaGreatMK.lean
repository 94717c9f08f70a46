/- MirrorHonest's argument: a struct of texts and an array of numbers. -/
import Derived.Test.YtnpfhfgegjocoaaGreatMI
import Derived.Test.YtnpfhfgegjocoaaGreatMH
import Derived.Test.YtnpfhfgegjocoaaGreatMA
import Derived.SizedLaws
import Derived.Test.YtnpfhfgegjocoaaGreatMG
import Derived.OpenShut
/- MirrorHonest, plainly: what a read tells of any two images. -/
namespace Go.Proofs.YtnpfhfgegjocoaaGreat

section
variable {B z n c : Nat} {M : Mi}
theorem Gm.read_size' (h : Gm B z n c M) {s i : Nat} (hs : s < 2) (hi : i < B) (he : (M.P.read s (i : Int)).2 = 0) : (M.P.read s (i : Int)).1.size = z := by
  have hib : i < (M.P.tab s).blocks := by rw [h.blocks s hs]; exact hi
  rw [read_in hib] at he ⊢
  rw [Dev.read_size (h.pi.inv.dev s hs).ok he, (h.pi.inv.same s hs).1, h.size]
/-- Both sides read something of a block: what Read answers, and which image then comes first. -/
theorem Gm.honest (h : Gm B z n c M) (hn : Sound M.P) {q : PtrE} {i a g : Nat} {X t : ByteArray} (hI : ImgOf X q z a g t) (hi : i < B) (hr : ∀ d, d < 2 → ∃ Y, M.P.read d (i : Int) = (Y, 0)) :
    M.readV q i = (0, ⟨#[]⟩, 10) ∧ M.readM q i = M ∨
    ∃ k pl Y Z, M.readV q i = (k, bA pl, 0) ∧ Gm B z n (c + 1) (M.readM q i) ∧ (M.readM q i).imgs i = [Y, Z] ∧ meetsL q Y.toList = true ∧ (bA pl ≠ t → Y ≠ X) := by
  have key : ∀ (s : Nat) (Y : ByteArray), s < 2 → M.whole q i = (Y, s, 0) → meetsL q Y.toList = true → ∃ k pl, M.readV q i = (k, bA pl, 0) ∧ (bA pl ≠ t → Y ≠ X) := by
    intro s Y _ hw hm
    obtain ⟨e, pl, ho, _⟩ := meets_open hm
    refine ⟨e.kind, pl, ?_, fun hne e2 => hne ?_⟩
    · unfold Mi.readV
      rw [hw]
      simp only [ne_eq, not_true_eq_false, if_false]
      rw [ho]
    · rw [e2, hI.opens] at ho
      injection ho with ho
      injection ho with _ ho
      rw [← ho, bA_of]
  obtain ⟨Y0, h0⟩ := hr 0 (by decide)
  obtain ⟨Y1, h1⟩ := hr 1 (by decide)
  cases m0 : M.has q 0 i with
  | true =>
    have hw : M.whole q i = (Y0, 0, 0) := by rw [Mi.whole_at (by decide) (fun k hk => by omega) m0, h0]
    rw [Mi.has_iff h0] at m0
    obtain ⟨k, pl, hv, hne⟩ := key 0 Y0 (by decide) hw m0
    have hM : M.readM q i = M := by unfold Mi.readM; rw [hw]; simp
    refine .inr ⟨k, pl, Y0, Y1, hv, by rw [hM]; exact h.mono (by omega), ?_, m0, hne⟩
    rw [hM]
    unfold Mi.imgs
    rw [h0, h1]; rfl
  | false =>
    cases m1 : M.has q 1 i with
    | true =>
      have hw : M.whole q i = (Y1, 1, 0) := by rw [Mi.whole_at (s := 1) (by decide) (fun k hk => by rw [show k = 0 by omega]; exact m0) m1, h1]
      rw [Mi.has_iff h1] at m1
      obtain ⟨k, pl, hv, hne⟩ := key 1 Y1 (by decide) hw m1
      have hsz : Y1.size = z := by
        have := h.read_size' (s := 1) (by decide) hi (by rw [h1])
        rw [h1] at this; exact this
      obtain ⟨M', e, g1, _, x1, o1, _⟩ := h.repair_ok hn (s := 0) (by decide) hi (x := Y1) hsz
      have hM : M.readM q i = M' := by
        unfold Mi.readM
        rw [hw]
        simp only
        rw [if_pos trivial, e]
      refine .inr ⟨k, pl, Y1, Y1, hv, by rw [hM]; exact g1, ?_, m1, hne⟩
      rw [hM]
      unfold Mi.imgs
      rw [x1, o1 1 i (by decide) hi (.inl (by decide)), h1]; rfl
    | false =>
      have hw := Mi.whole_no (M := M) (q := q) (i := i) (fun k hk => by rcases two_cases hk with rfl | rfl <;> assumption)
      rw [h.none] at hw
      exact .inl ⟨by unfold Mi.readV; rw [hw]; simp, by unfold Mi.readM; rw [hw]; simp⟩
end
end Go.Proofs.YtnpfhfgegjocoaaGreat
/- Arguments that are slices of structs, with what the form says of their sizes. No program is named here. -/
namespace Go.Proofs.YtnpfhfgegjocoaaGreat
open Go.ChangeShapes Go.WideShapes Go.ChangeAt Go.RowKit

theorem weightsAll_mem {H : Type} {P : Program} {e : TypeId} : ∀ {l : List (DataW H)} {d : DataW H}, d ∈ l → ∀ n ∈ d.weights P e, n ∈ DataW.weightsAll P e l
  | d' :: r, d, hd, n, hn => by
    simp only [DataW.weightsAll, List.mem_append]
    rcases List.mem_cons.1 hd with rfl | h
    · exact Or.inl hn
    · exact Or.inr (weightsAll_mem h n hn)
theorem structs_core {H : Type} {enc : TypeId × Value → H} {P : Program} {W : World} {t e : TypeId} {fuel : Nat} {c : Value} {x : DataW H × List MemPlace} {α : Type} [Inhabited α] (k : Nat) (hk0 : 0 < k) (f : α → List Value) (Q : α → DataW H → Prop) (hf : ∀ a, (f a).length = k) (ht : P.underlying t = some (.slice e)) (ce : P.cellsOf e = k)
    (hmk : ∀ (n : Nat) (cs : List Value) (y : DataW H × List MemPlace), DataW.trod enc P W 0 (fun _ => true) true n e cs = some y → cs.length = k → ∃ a : α, cs = f a ∧ Q a y.1)
    (hfu : DataW.trod enc P W 0 (fun _ => true) true fuel t [c] = some x) :
    ∃ (A : Option Addr) (len cap : Nat) (zs : List α), c = .slice A len cap ∧ Row W A (zs.flatMap f) ∧ zs.length = len ∧ len ≤ cap ∧ cap ≤ maxLen ∧ ∀ z ∈ zs, ∃ y, Q z y ∧ ∀ n ∈ y.weights P e, n ∈ x.1.weights P t := by
  rcases Deep.open_slice ht hfu with ⟨hcs, hx⟩ | ⟨a, len, cap, m, n, D, Pl, hcs, _, hl, hm, hmm, hx, hcell⟩
  · injection hcs with hcs _
    subst hcs
    exact ⟨none, 0, 0, [], rfl, .inl rfl, rfl, Nat.le_refl _, Nat.zero_le _, fun z hz => by cases hz⟩
  · injection hcs with hcs _
    subst hcs
    simp only [if_true] at hmm
    have hex : ∀ i, ∃ z : α, i < m → (∀ j, j < k → W.cell? ((a.add (i * k)).add j) = (f z)[j]?) ∧ Q z (D i) := by
      intro i
      by_cases hi : i < m
      · obtain ⟨cs', h1, h2⟩ := hcell i hi
        rw [ce] at h1
        obtain ⟨_, hlen, hc⟩ := World.cells?_some h1
        obtain ⟨z, rfl, hq⟩ := hmk _ _ _ h2 hlen
        exact ⟨z, fun _ => ⟨hc, hq⟩⟩
      · exact ⟨default, fun h => absurd h hi⟩
    obtain ⟨F, hF⟩ := Classical.axiomOfChoice hex
    refine ⟨some a, len, cap, (List.range len).map F, rfl, ?_, by simp, hl, hm, ?_⟩
    · rcases Nat.eq_zero_or_pos len with h0 | h0
      · subst h0; exact .inl rfl
      · obtain ⟨b, o, s⟩ := a
        cases s with
        | some s =>
          have h1 := (hF 0 (by omega)).1 0 hk0
          have h2 : ((f (F 0))[0]?).isSome = true := by rw [List.getElem?_eq_getElem (by rw [hf]; exact hk0)]; rfl
          rw [← h1] at h2
          simp [World.cell?, Addr.add] at h2
          split at h2 <;> simp_all
        | none =>
          refine .inr ⟨b, o, rfl, fun i u hi => ?_⟩
          have hil : i < len * k := by
            have := (List.getElem?_eq_some_iff.1 hi).1
            rw [flat_length f hf] at this
            simpa using this
          have hdiv : i / k < len := Nat.div_lt_of_lt_mul (by rw [Nat.mul_comm]; exact hil)
          have hmod : i % k < k := Nat.mod_lt _ hk0
          have hd := Nat.div_add_mod i k
          have hg := flat_get f hf (l := (List.range len).map F) (i := i / k) (a := F (i / k)) (j := i % k) (by rw [List.getElem?_map, List.getElem?_range hdiv]; rfl) hmod
          have h1 := (hF (i / k) (by omega)).1 (i % k) hmod
          rw [addr_add, addr_add] at h1
          rw [Nat.mul_comm] at hd
          rw [hd] at hg
          rw [hg] at hi
          rw [hi, Nat.add_assoc, hd] at h1
          exact h1
    · intro z hz
      obtain ⟨i, hi, rfl⟩ := List.mem_map.1 hz
      have hil := List.mem_range.1 hi
      refine ⟨D i, (hF i (by omega)).2, fun n hn => ?_⟩
      rw [hx]
      simp only [DataW.weights, ht, List.mem_cons, List.mem_append]
      exact .inr (.inl (weightsAll_mem (List.mem_map.2 ⟨i, hi, rfl⟩) n hn))
theorem reach_eq : reachBytes = 140737488351232 := rfl
end Go.Proofs.YtnpfhfgegjocoaaGreat
namespace Go.Proofs.YtnpfhfgegjocoaaGreat
open Go.ChangeShapes Go.WideShapes Go.ChangeAt Go.RowKit

structure Case8 where
  s : ByteArray
  a : ByteArray
  b : ByteArray
  g0 : Nat
  g1 : Nat
  g2 : Nat
  g3 : Nat
def ccells8 (x : Case8) : List Value := [.string x.s, .string x.a, .string x.b, .int .u16 (x.g0 : Nat), .int .u16 (x.g1 : Nat), .int .u16 (x.g2 : Nat), .int .u16 (x.g3 : Nat)]
structure Case8.Ok (x : Case8) : Prop where
  s : x.s.size ≤ 140737488351232
  a : x.a.size ≤ 140737488351232
  b : x.b.size ≤ 140737488351232
  g0 : x.g0 < 65536
  g1 : x.g1 < 65536
  g2 : x.g2 < 65536
  g3 : x.g3 < 65536
theorem cellsStrH : Tryz.prog.cellsOf 9 = 1 := by kernel_rfl
theorem cellsU16H : Tryz.prog.cellsOf 46 = 1 := by kernel_rfl
theorem cellsArrH : Tryz.prog.cellsOf 47 = 4 := by kernel_rfl
theorem cellsCaseH : Tryz.prog.cellsOf 49 = 7 := by kernel_rfl
set_option maxRecDepth 100000 in
theorem arr4_trod {H : Type} {enc : TypeId × Value → H} {W : World} {n : Nat} {c0 c1 c2 c3 : Value} {y : DataW H × List MemPlace} (h : DataW.trod enc Tryz.prog W 0 (fun _ => true) true n 47 [c0, c1, c2, c3] = some y) :
    ∃ a b c d : Int, [c0, c1, c2, c3] = [.int .u16 a, .int .u16 b, .int .u16 c, .int .u16 d] ∧ (Lit.int .u16 a).wf = true ∧ (Lit.int .u16 b).wf = true ∧ (Lit.int .u16 c).wf = true ∧ (Lit.int .u16 d).wf = true := by
  obtain ⟨xs, m, rfl, hx, _, hl, hg⟩ := DataW.trod_array Tryz.underlying47 h
  have g0 := hg 0 (by omega)
  have g1 := hg 1 (by omega)
  have g2 := hg 2 (by omega)
  have g3 := hg 3 (by omega)
  rw [cellsU16H] at g0 g1 g2 g3
  obtain ⟨y0, y1, y2, y3, rfl⟩ : ∃ y0 y1 y2 y3, xs = [y0, y1, y2, y3] := by
    match xs, hl with
    | [y0, y1, y2, y3], _ => exact ⟨y0, y1, y2, y3, rfl⟩
  simp at g0 g1 g2 g3
  obtain ⟨a, ea, rfl, wa⟩ := DataW.trod_int Tryz.underlying46 g0
  obtain ⟨b, eb, rfl, wb⟩ := DataW.trod_int Tryz.underlying46 g1
  obtain ⟨c, ec, rfl, wc⟩ := DataW.trod_int Tryz.underlying46 g2
  obtain ⟨d, ed, rfl, wd⟩ := DataW.trod_int Tryz.underlying46 g3
  simp at ea eb ec ed
  subst ea eb ec ed
  exact ⟨a, b, c, d, rfl, wa, wb, wc, wd⟩
def case8Q (x : Case8) {H : Type} (d : DataW H) : Prop := ∃ g, d = .agg [.lit (.string x.s.data.toList), .lit (.string x.a.data.toList), .lit (.string x.b.data.toList), g]
set_option maxRecDepth 100000 in
theorem case8_mk {H : Type} {enc : TypeId × Value → H} {W : World} {n : Nat} {cs : List Value} {y : DataW H × List MemPlace} (h : DataW.trod enc Tryz.prog W 0 (fun _ => true) true n 49 cs = some y) (hl : cs.length = 7) :
    ∃ x : Case8, cs = ccells8 x ∧ case8Q x y.1 ∧ x.g0 < 65536 ∧ x.g1 < 65536 ∧ x.g2 < 65536 ∧ x.g3 < 65536 := by
  obtain ⟨xs, m, _, hy, _, hxl, hf⟩ := DataW.trod_struct Tryz.underlying49 h
  match cs, hl with
  | [c0, c1, c2, c3, c4, c5, c6], _ =>
    match xs, hxl with
    | [y0, y1, y2, y3], _ =>
      have g0 := hf 0 _ rfl
      have g1 := hf 1 _ rfl
      have g2 := hf 2 _ rfl
      have g3 := hf 3 _ rfl
      simp [cellsStrH, cellsArrH] at g0 g1 g2 g3
      obtain ⟨s0, e0, f0, _⟩ := DataW.trod_string Tryz.underlying9 g0
      obtain ⟨s1, e1, f1, _⟩ := DataW.trod_string Tryz.underlying9 g1
      obtain ⟨s2, e2, f2, _⟩ := DataW.trod_string Tryz.underlying9 g2
      obtain ⟨a, b, c, d, e3, wa, wb, wc, wd⟩ := arr4_trod g3
      simp at e0 e1 e2 e3
      obtain ⟨e3, e4, e5, e6⟩ := e3
      have ba := bounds_u16 wa
      have bb := bounds_u16 wb
      have bc := bounds_u16 wc
      have bd := bounds_u16 wd
      obtain ⟨a', ha⟩ := Int.eq_ofNat_of_zero_le ba.1
      obtain ⟨b', hb⟩ := Int.eq_ofNat_of_zero_le bb.1
      obtain ⟨c', hc⟩ := Int.eq_ofNat_of_zero_le bc.1
      obtain ⟨d', hd⟩ := Int.eq_ofNat_of_zero_le bd.1
      refine ⟨⟨s0, s1, s2, a', b', c', d'⟩, ?_, ⟨y3.1, ?_⟩, by simp only; omega, by simp only; omega, by simp only; omega, by simp only; omega⟩
      · unfold ccells8
        rw [e0, e1, e2, e3, e4, e5, e6, ha, hb, hc, hd]
      · rw [hy, f0, f1, f2]; rfl
set_option maxRecDepth 100000 in
theorem case8_size {H : Type} {x : Case8} {d : DataW H} (hq : case8Q x d) (hL : ∀ n ∈ d.weights Tryz.prog 49, n ≤ reachBytes) : x.s.size ≤ 140737488351232 ∧ x.a.size ≤ 140737488351232 ∧ x.b.size ≤ 140737488351232 := by
  obtain ⟨g, rfl⟩ := hq
  rw [reach_eq] at hL
  obtain ⟨fs, hu, ht⟩ : ∃ fs, Tryz.prog.underlying 49 = some (.struct fs) ∧ fs.toList.map (·.type) = [9, 9, 9, 47] := ⟨_, Tryz.underlying49, rfl⟩
  refine ⟨hL _ ?_, hL _ ?_, hL _ ?_⟩
  all_goals
    simp only [DataW.weights, hu, ht, DataW.weightsEach, List.mem_append, List.mem_singleton, Array.length_toList]
    simp
set_option maxRecDepth 100000 in
theorem case8_open {H : Type} {enc : TypeId × Value → H} {W : World} {base : Nat} {v : Value} {d : DataW H} {p : List MemPlace} (hv : Value.okWide Tryz.prog W .any base 49 v) (hj : DataW.Trod enc Tryz.prog W 0 (fun _ => true) true 49 v d p) (hsz : ∀ n ∈ d.weights Tryz.prog 49, n ≤ reachBytes) :
    ∃ x : Case8, v = .agg (ccells8 x).toArray ∧ x.Ok := by
  simp only [Value.okWide, Tryz.underlying49] at hv
  obtain ⟨cs, rfl, hcs, _⟩ := hv
  rw [cellsCaseH] at hcs
  obtain ⟨fuel, hf⟩ := hj
  obtain ⟨x, h1, h2, k0, k1, k2, k3⟩ := case8_mk hf (by simpa [Value.cells] using hcs)
  obtain ⟨z0, z1, z2⟩ := case8_size h2 hsz
  refine ⟨x, ?_, ⟨z0, z1, z2, k0, k1, k2, k3⟩⟩
  rw [← h1]; rfl
end Go.Proofs.YtnpfhfgegjocoaaGreat
