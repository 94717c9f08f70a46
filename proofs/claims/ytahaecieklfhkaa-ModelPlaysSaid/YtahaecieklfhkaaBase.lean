/- Plain facts on worlds: which blocks a step may have turned; a block that is known whole. No program is named here. -/
import Derived.Handy
import Derived.WalkSpells
import Derived.WalkLawsBesides
import Derived.BigQuiet
import Derived.Deep.QuietTactic
import Derived.Lib.Hide
import Derived.OneCell
namespace Go.Proofs.Ytahaecieklfhkaa
open Go.RowKit

/-- From w to w1: of the blocks that were there only those of L may have turned. -/
structure Mods (L : List Nat) (w w1 : World) : Prop where
  os : w1.os = w.os
  tape : w1.tape = w.tape
  output : w1.output = w.output
  size : w.heap.size ≤ w1.heap.size
  block : ∀ k, k < w.heap.size → k ∉ L → w1.heap[k]? = w.heap[k]?

theorem Mods.refl (L : List Nat) (w : World) : Mods L w w := ⟨rfl, rfl, rfl, Nat.le_refl _, fun _ _ _ => rfl⟩
theorem Mods.mono {L L1 : List Nat} {w w1 : World} (h : Mods L w w1) (hl : ∀ k ∈ L, k ∈ L1) : Mods L1 w w1 :=
  ⟨h.os, h.tape, h.output, h.size, fun k hk hn => h.block k hk (fun hm => hn (hl k hm))⟩
theorem Mods.trans {L L1 : List Nat} {a b c : World} (h : Mods L a b) (g : Mods L1 b c) (hl : ∀ k ∈ L1, k ∈ L ∨ a.heap.size ≤ k) : Mods L a c :=
  ⟨g.os.trans h.os, g.tape.trans h.tape, g.output.trans h.output, Nat.le_trans h.size g.size, fun k hk hn =>
    (g.block k (Nat.lt_of_lt_of_le hk h.size) (fun hm => by rcases hl k hm with h1 | h1; exact hn h1; omega)).trans (h.block k hk hn)⟩
theorem Mods.drew {L : List Nat} {a b : World} (h : Mods L a b) : Mods L a b.drew := ⟨h.os, h.tape, h.output, h.size, h.block⟩
theorem Mods.drewN {L : List Nat} {a b : World} (h : Mods L a b) (n : Nat) : Mods L a (b.drewN n) := ⟨h.os, h.tape, h.output, h.size, h.block⟩
theorem Mods.alloc {L : List Nat} {a b : World} (h : Mods L a b) (o : Obj) : Mods L a (b.alloc o) :=
  ⟨h.os, h.tape, h.output, by have := h.size; simp; omega, fun k hk hn => (Below.heap_alloc _ _ _ (Nat.lt_of_lt_of_le hk h.size)).trans (h.block k hk hn)⟩
theorem Mods.setCell {L : List Nat} {a b : World} (h : Mods L a b) {p : Addr} (hp : p.block ∈ L ∨ a.heap.size ≤ p.block) (u : Value) : Mods L a (b.setCell p u) :=
  ⟨h.os, h.tape, h.output, by simpa using h.size, fun k hk hn => (Below.heap_setCell _ _ _ _ (by rintro rfl; rcases hp with h1 | h1; exact hn h1; omega)).trans (h.block k hk hn)⟩
theorem Mods.grown {L : List Nat} {a b c : World} (h : Mods L a b) {row : Option Nat} (g : b.grownBy c row) (hr : ∀ k, row = some k → k ∈ L ∨ a.heap.size ≤ k) : Mods L a c :=
  ⟨g.os.trans h.os, g.tape.trans h.tape, g.output.trans h.output, Nat.le_trans h.size g.size, fun k hk hn =>
    (g.block k (Nat.lt_of_lt_of_le hk h.size) (fun e => by rcases hr k e.symm with h1 | h1; exact hn h1; omega)).trans (h.block k hk hn)⟩
theorem Mods.below {w w1 : World} (h : Mods [] w w1) : Below w.heap.size w w1 := ⟨h.os, h.tape, h.output, h.size, fun k hk => h.block k hk (by simp)⟩
theorem Mods.of_below {w w1 : World} (h : Below w.heap.size w w1) (L : List Nat) : Mods L w w1 := ⟨h.os, h.tape, h.output, h.size, fun k hk _ => h.block k hk⟩
/-- What a block held it holds still. -/
theorem Mods.keep {L : List Nat} {w w1 : World} (h : Mods L w w1) {k : Nat} {o : Obj} (ho : w.heap[k]? = some o) (hn : k ∉ L) : w1.heap[k]? = some o :=
  (h.block k (lt_of_block ho) hn).trans ho
theorem Mods.cell {L : List Nat} {w w1 : World} (h : Mods L w w1) {p : Addr} (hk : p.block < w.heap.size) (hn : p.block ∉ L) : w1.cell? p = w.cell? p :=
  World.cell?_of_block (w := w) (h.block p.block hk hn)

/-- A block of cells, none of them frozen. -/
def Blk (w : World) (b : Nat) (t : TypeId) (l : List Value) : Prop := w.heap[b]? = some (.cells l.toArray t (0, 0))
theorem Blk.lt {w : World} {b : Nat} {t : TypeId} {l : List Value} (h : Blk w b t l) : b < w.heap.size := lt_of_block h
theorem Blk.cell {w : World} {b : Nat} {t : TypeId} {l : List Value} (h : Blk w b t l) {i : Nat} {v : Value} (hi : l[i]? = some v) : w.cell? ⟨b, i, none⟩ = some v := by
  unfold Blk at h; simp [World.cell?, h, hi]
theorem Blk.free {w : World} {b : Nat} {t : TypeId} {l : List Value} (h : Blk w b t l) (i : Nat) : w.frozen? ⟨b, i, none⟩ = false := by
  unfold Blk at h; simp [World.frozen?, h]
theorem Blk.keep {w w1 : World} {b : Nat} {t : TypeId} {l : List Value} (h : Blk w b t l) {L : List Nat} (hm : Mods L w w1) (hn : b ∉ L) : Blk w1 b t l := hm.keep h hn
theorem Blk.drewN {w : World} {b : Nat} {t : TypeId} {l : List Value} (h : Blk w b t l) (n : Nat) : Blk (w.drewN n) b t l := h
theorem Blk.alloc {w : World} {b : Nat} {t : TypeId} {l : List Value} (h : Blk w b t l) (o : Obj) : Blk (w.alloc o) b t l :=
  (Below.heap_alloc _ _ _ (lt_of_block h)).trans h
theorem Blk.set {w : World} {b : Nat} {t : TypeId} {l : List Value} (h : Blk w b t l) (i : Nat) (v : Value) : Blk (w.setCell ⟨b, i, none⟩ v) b t (l.set i v) := by
  have hlt := lt_of_block h
  have h' : w.heap[b] = .cells l.toArray t (0, 0) := by simpa [Blk, Array.getElem?_eq_getElem hlt] using h
  show (w.heap.modify b _)[b]? = _
  rw [Array.getElem?_eq_getElem (by simpa using hlt), Array.getElem_modify_self, h']
  simp
theorem Blk.setOther {w : World} {b : Nat} {t : TypeId} {l : List Value} (h : Blk w b t l) {p : Addr} (hp : b ≠ p.block) (v : Value) : Blk (w.setCell p v) b t l :=
  (Below.heap_setCell _ _ _ _ hp).trans h
theorem Blk.new (w : World) (t : TypeId) (l : List Value) : Blk (w.alloc (.cells l.toArray t (0, 0))) w.heap.size t l := by
  show (w.heap.push _)[w.heap.size]? = _
  simp
theorem addr_add0 (c j : Nat) : (⟨c, 0, none⟩ : Addr).add j = ⟨c, j, none⟩ := by
  unfold Addr.add; split <;> simp_all
/-- A cell of a block that is known whole: its value. -/
theorem Blk.inj {w : World} {b : Nat} {t t1 : TypeId} {l l1 : List Value} (h : Blk w b t l) (h1 : Blk w b t1 l1) : l = l1 := by
  unfold Blk at h h1; rw [h] at h1; injection h1 with h1; injection h1 with h1; simpa using congrArg Array.toList h1
/-- The remainder of a number not below zero, as the walk reckons it. -/
theorem run_rem_pos (P : Program) (T : TypeId) (z m : Int) (W : World) (h0 : 0 ≤ z) (hm : 0 < m) :
    (binOp .rem T (.int .i64 z) (.int .i64 m)).run P W = .ok (.int .i64 (z % m)) W := by
  have hne : ¬ m = 0 := by omega
  simp [binOp, go_sem, hne, Int.tmod_eq_emod_of_nonneg h0]
end Go.Proofs.Ytahaecieklfhkaa
