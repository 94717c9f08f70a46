/- What CachePlays keeps from act to act; its acts as arguments. -/
import Derived.Test.YtahaecieklfhkaaRef13
import Derived.ProofKit
namespace Go.Proofs.Ytahaecieklfhkaa
open Go.ChangeShapes Go.WideShapes Go.ChangeAt Go.RowKit

structure Act11 where
  act : Int
  addr : Int
  gen : Nat
  sum : Nat
  pay : ByteArray
instance : Inhabited Act11 := ⟨⟨0, 0, 0, 0, ⟨#[]⟩⟩⟩
def acells (a : Act11) : List Value := [.int .i64 a.act, .int .i64 a.addr, .int .u64 a.gen, .int .u32 a.sum, .string a.pay]
def actRow (zs : List Act11) : List Value := zs.flatMap acells
theorem acells_len (a : Act11) : (acells a).length = 5 := rfl
theorem actRow_at {w : World} {A : Option Addr} {R : List Act11} (h : Row w A (actRow R)) {i : Nat} {x : Act11} (hx : R[i]? = some x) : ∃ b off, A = some ⟨b, off, none⟩ ∧ w.cell? ⟨b, off + i * 5, none⟩ = some (.int .i64 x.act) ∧ w.cell? ⟨b, off + i * 5 + 1, none⟩ = some (.int .i64 x.addr) ∧
    w.cell? ⟨b, off + i * 5 + 2, none⟩ = some (.int .u64 x.gen) ∧ w.cell? ⟨b, off + i * 5 + 3, none⟩ = some (.int .u32 x.sum) ∧ w.cell? ⟨b, off + i * 5 + 4, none⟩ = some (.string x.pay) := by
  have g := fun (j : Nat) (hj : j < 5) => flat_get acells acells_len hx hj
  rcases h with h | ⟨b, off, h1, h2⟩
  · have := g 0 (by omega)
    rw [show R.flatMap acells = actRow R from rfl, h] at this
    simp [acells] at this
  · refine ⟨b, off, h1, ?_, ?_, ?_, ?_, ?_⟩
    · exact h2 (i * 5) _ ((g 0 (by omega)).trans rfl)
    · rw [Nat.add_assoc]; exact h2 (i * 5 + 1) _ ((g 1 (by omega)).trans rfl)
    · rw [Nat.add_assoc]; exact h2 (i * 5 + 2) _ ((g 2 (by omega)).trans rfl)
    · rw [Nat.add_assoc]; exact h2 (i * 5 + 3) _ ((g 3 (by omega)).trans rfl)
    · rw [Nat.add_assoc]; exact h2 (i * 5 + 4) _ ((g 4 (by omega)).trans rfl)
theorem actRow_bound (_ : Act11) : True := trivial
theorem info_act11 : (Try.prog.info? 63).map (fun i => (i.zero, i.size, i.bytes)) = some (some (.agg #[.int .i64 0, .int .i64 0, .int .u64 0, .int .u32 0, .string ⟨#[]⟩]), 5, 48) := by kernel_rfl
theorem row_of_owns3 {w : World} {base n : Nat} {e : TypeId} {u : Value} {xs : List Value} (h : w.ownsRow base e 1 u n xs) : ∃ A cap, u = .slice A n cap ∧ Row w A xs ∧ n ≤ cap ∧ (∀ a, A = some a → base ≤ a.block) := by
  obtain ⟨A, cap, h1, h2, h3, _, h5, _⟩ := row_of_owns h
  exact ⟨A, cap, h1, h2, h5, h3⟩

/-- How things stand behind i acts: the cache keeps R, and so does the document's list. -/
structure PlaysW (w wr : World) (b n i : Nat) (R : List Kept) (A : Option Addr) (f0 f1 : Nat) : Prop where
  ex : ∃ fp, IsC wr b fp n R f0 f1 i ∧ (∀ k ∈ fp, w.heap.size ≤ k) ∧ ∀ a, A = some a → a.block < wr.heap.size ∧ a.block ∉ fp
  row : Row wr A (kRow R)
  mods : Mods [] w wr
  cnt : f0 + f1 ≤ i
theorem PlaysW.adr {w wr : World} {b n i : Nat} {R : List Kept} {A : Option Addr} {f0 f1 : Nat} (h : PlaysW w wr b n i R A f0 f1) : (R.map Kept.addr).Nodup := by obtain ⟨fp, hc, _⟩ := h.ex; exact hc.adr
theorem PlaysW.len {w wr : World} {b n i : Nat} {R : List Kept} {A : Option Addr} {f0 f1 : Nat} (h : PlaysW w wr b n i R A f0 f1) : R.length ≤ n := by obtain ⟨fp, hc, _⟩ := h.ex; exact hc.len
theorem PlaysW.still {w wr w1 : World} {b n i : Nat} {R : List Kept} {A : Option Addr} {f0 f1 : Nat} (h : PlaysW w wr b n i R A f0 f1) (hm : Mods [] wr w1) : PlaysW w w1 b n i R A f0 f1 := by
  obtain ⟨fp, h1, h2, h3⟩ := h.ex
  exact ⟨⟨fp, h1.keep hm (by simp), h2, fun a ha => ⟨Nat.lt_of_lt_of_le (h3 a ha).1 hm.size, (h3 a ha).2⟩⟩, h.row.keep hm (fun _ _ => by simp), h.mods.trans hm (by simp), h.cnt⟩
/-- An act that turns the cache, and a list that is made anew. -/
theorem PlaysW.next {w wr w6 wa wX : World} {b n i : Nat} {R R2 : List Kept} {A A2 : Option Addr} {f0 f1 g0 g1 t c2 len2 : Nat} {fp fp1 : List Nat} (h : PlaysW w wr b n i R A f0 f1) (h6 : Mods fp wr w6) (ha : Mods fp w6 wa) (hc : IsC wa b fp1 n R2 g0 g1 t) (hs : ∀ k ∈ fp1, k ∈ fp ∨ w6.heap.size ≤ k)
    (hX : Mods [] wa wX) (hown : wX.ownsRow wa.heap.size 66 5 (.slice A2 len2 c2) len2 (kRow R2)) (hrow : Row wX A2 (kRow R2)) (_hl : len2 = R2.length) (hF : ∀ k ∈ fp, w.heap.size ≤ k) (hcnt : g0 + g1 ≤ i + 1 ∧ t ≤ i + 1) (_hlt : ∀ k ∈ fp, k < wr.heap.size) : PlaysW w wX b n (i + 1) R2 A2 g0 g1 := by
  have h0 := h.mods.size
  have h1 := h6.size
  have h2 := ha.size
  refine ⟨⟨fp1, ?_, fun k hk => ?_, fun a haA => ?_⟩, hrow, ((h.mods.trans h6 (fun k hk => .inr (hF k hk))).trans ha (fun k hk => .inr (hF k hk))).trans hX (by simp), hcnt.1⟩
  · obtain ⟨S, k1, k2, k3, k4, k5, k6⟩ := hc.keep hX (by simp)
    exact ⟨S, k1, k2, k3, k4, k5, by omega⟩
  · rcases hs k hk with hk | hk
    · exact hF k hk
    · omega
  · subst haA
    have hlt := hown.lt a.block rfl
    refine ⟨hlt.2, fun hk => ?_⟩
    have := hc.lt _ hk
    omega

/-- A Get that finds nothing. -/
theorem PlaysW.missed {w wr w6 wa wX : World} {b n i : Nat} {R : List Kept} {A : Option Addr} {f0 f1 : Nat} {fp : List Nat} (h : PlaysW w wr b n i R A f0 f1) (h6 : Mods fp wr w6) (ha : Mods fp w6 wa) (hc : IsC wa b fp n R f0 (f1 + 1) i) (hX : Mods [] wa wX) (hF : ∀ k ∈ fp, w.heap.size ≤ k) (hA : ∀ a, A = some a → a.block < wr.heap.size ∧ a.block ∉ fp) :
    PlaysW w wX b n (i + 1) R A f0 (f1 + 1) := by
  have h1 := h6.size
  have h2 := ha.size
  have h3 := hX.size
  refine ⟨⟨fp, ?_, hF, fun a e => ⟨by have := (hA a e).1; omega, (hA a e).2⟩⟩, ?_, ((h.mods.trans h6 (fun k hk => .inr (hF k hk))).trans ha (fun k hk => .inr (hF k hk))).trans hX (by simp), by have := h.cnt; omega⟩
  · obtain ⟨S, k1, k2, k3, k4, k5, k6⟩ := hc.keep hX (by simp)
    exact ⟨S, k1, k2, k3, k4, k5, by omega⟩
  · exact ((h.row.keep h6 (fun a e => (hA a e).2)).keep ha (fun a e => (hA a e).2)).keep hX (fun _ _ => by simp)
theorem others_length2 {R : List Kept} {x : Kept} (hn : (R.map Kept.addr).Nodup) (hx : x ∈ R) : (others x.addr R).length + 1 = R.length := by
  induction R with
  | nil => cases hx
  | cons y R ih =>
    rw [List.map_cons, List.nodup_cons] at hn
    by_cases hxy : y.addr = x.addr
    · have : others x.addr (y :: R) = others x.addr R := by unfold others; rw [List.filter_cons_of_neg (by simp [hxy])]
      rw [this, others_none (by rw [← hxy]; exact hn.1)]
      rfl
    · have : others x.addr (y :: R) = y :: others x.addr R := by unfold others; rw [List.filter_cons_of_pos (by simp [hxy])]
      rw [this]
      have hx2 : x ∈ R := by
        rcases List.mem_cons.1 hx with rfl | hx
        · exact absurd rfl hxy
        · exact hx
      have := ih hn.2 hx2
      simp; omega
theorem putK_hit {R : List Kept} {a : Int} {g s : Nat} {x : Kept} (hn : (R.map Kept.addr).Nodup) (hx : getK R a g s = some x) : putK R.length R x = x :: others a R ∧ 0 < R.length := by
  unfold getK at hx
  have hm := List.mem_of_find?_eq_some hx
  have h3 := List.find?_some (p := fun y : Kept => y.is a g s) hx
  have hi := Kept.is_iff.1 h3
  have hl := others_length2 hn hm
  refine ⟨?_, List.length_pos_of_mem hm⟩
  unfold putK
  rw [← hi.1, List.take_of_length_le (by omega)]

theorem cellsInt : Try.prog.cellsOf 3 = 1 := by kernel_rfl
theorem cellsU64 : Try.prog.cellsOf 25 = 1 := by kernel_rfl
theorem cellsU32 : Try.prog.cellsOf 51 = 1 := by kernel_rfl
theorem cellsStr : Try.prog.cellsOf 9 = 1 := by kernel_rfl
set_option maxRecDepth 100000 in
theorem act11_mk {H : Type} {enc : TypeId × Value → H} {W : World} {n : Nat} {cs : List Value} {y : DataW H × List MemPlace} (h : DataW.trod enc Try.prog W 0 (fun _ => true) true n 63 cs = some y) (hl : cs.length = 5) : ∃ a : Act11, cs = acells a := by
  obtain ⟨xs, m, rfl, _, _, hxl, hf⟩ := DataW.trod_struct Try.underlying63 h
  match cs, hl with
  | [c0, c1, c2, c3, c4], _ =>
    match xs, hxl with
    | [y0, y1, y2, y3, y4], _ =>
      have g0 := hf 0 _ rfl
      have g1 := hf 1 _ rfl
      have g2 := hf 2 _ rfl
      have g3 := hf 3 _ rfl
      have g4 := hf 4 _ rfl
      simp [cellsInt, cellsU64, cellsU32, cellsStr] at g0 g1 g2 g3 g4
      obtain ⟨a0, e0, _, _⟩ := DataW.trod_int Try.underlying3 g0
      obtain ⟨a1, e1, _, _⟩ := DataW.trod_int Try.underlying3 g1
      obtain ⟨a2, e2, _, w2⟩ := DataW.trod_int Try.underlying25 g2
      obtain ⟨a3, e3, _, w3⟩ := DataW.trod_int Try.underlying51 g3
      obtain ⟨s4, e4, _, _⟩ := DataW.trod_string Try.underlying9 g4
      have b2 := bounds_u64 w2
      have b3 := bounds_u32 w3
      obtain ⟨a2, rfl⟩ := Int.eq_ofNat_of_zero_le b2.1
      obtain ⟨a3, rfl⟩ := Int.eq_ofNat_of_zero_le b3.1
      simp at e0 e1 e2 e3 e4
      subst e0 e1 e2 e3 e4
      exact ⟨⟨a0, a1, a2, a3, s4⟩, rfl⟩
theorem cellsAct11 : Try.prog.cellsOf 63 = 5 := by kernel_rfl
set_option maxRecDepth 100000 in
theorem acts_open11 {H : Type} {enc : TypeId × Value → H} {W : World} {base : Nat} {v : Value} {d : DataW H} {p : List MemPlace} (hv : Value.okWide Try.prog W .any base 59 v) (hj : DataW.Trod enc Try.prog W 0 (fun _ => true) true 59 v d p) :
    ∃ (A : Option Addr) (len cap : Nat) (zs : List Act11), v = .slice A len cap ∧ Row W A (actRow zs) ∧ zs.length = len ∧ len ≤ cap ∧ cap ≤ maxLen :=
  structs_open 5 (by omega) acells acells_len Try.underlying59 cellsAct11 (fun _ _ _ h hl => act11_mk h hl) hv hj
end Go.Proofs.Ytahaecieklfhkaa
