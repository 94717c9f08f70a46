/- The walks of package cache: its order's methods, which container/heap calls. -/
import Derived.Test.YtahaecieklfhkaaRows
import Derived.Test.YtahaecieklfhkaaPHeap
namespace Go.Proofs.Ytahaecieklfhkaa
open Go.RowKit

/-- A kept block, as the cache's slot tells it, and where that lies. -/
structure Ent where
  blk : Nat
  addr : Int
  gen : Nat
  sum : Nat
  kind : Nat
  pay : ByteArray
  used : Nat
def Ent.ptr (e : Ent) : Value := .pointer (some ⟨e.blk, 0, none⟩)
def Ent.cells (e : Ent) (place : Nat) : List Value := [.int .i64 e.addr, .int .u64 e.gen, .int .u32 e.sum, .int .u8 e.kind, .string e.pay, .int .u64 e.used, .int .i64 place]
instance : Inhabited Ent := ⟨⟨0, 0, 0, 0, 0, ⟨#[]⟩, 0⟩⟩

/-- The order's row: entry i's slot lies at place i, and knows it. -/
structure HeapW (w : World) (g cap : Nat) (E : List Ent) : Prop where
  row : ∃ r, Blk w g 112 (E.map Ent.ptr ++ r) ∧ E.length + r.length = cap ∧ cap ≤ maxLen
  slot : ∀ (i : Nat) (e : Ent), E[i]? = some e → Blk w e.blk 114 (e.cells i)
  nodup : (g :: E.map Ent.blk).Nodup
theorem HeapW.keep {w w1 : World} {g cap : Nat} {E : List Ent} (h : HeapW w g cap E) {L : List Nat} (hm : Mods L w w1) (hn : ∀ k ∈ g :: E.map Ent.blk, k ∉ L) : HeapW w1 g cap E := by
  obtain ⟨⟨r, h1, h2⟩, h3, h4⟩ := h
  refine ⟨⟨r, h1.keep hm (hn g (by simp)), h2⟩, fun i e he => (h3 i e he).keep hm (hn _ ?_), h4⟩
  exact List.mem_cons_of_mem _ (List.mem_map.2 ⟨e, List.mem_of_getElem? he, rfl⟩)
theorem HeapW.drewN {w : World} {g cap : Nat} {E : List Ent} (h : HeapW w g cap E) (q : Nat) : HeapW (w.drewN q) g cap E := ⟨h.row, h.slot, h.nodup⟩
theorem HeapW.at {w : World} {g cap : Nat} {E : List Ent} (h : HeapW w g cap E) {i : Nat} {e : Ent} (he : E[i]? = some e) : w.cell? ⟨g, i, none⟩ = some (.pointer (some ⟨e.blk, 0, none⟩)) := by
  obtain ⟨⟨r, h1, _⟩, _⟩ := h
  refine h1.cell ?_
  have hi := (List.getElem?_eq_some_iff.1 he).1
  rw [List.getElem?_append_left (by simpa using hi), List.getElem?_map, he]
  rfl
theorem HeapW.free {w : World} {g cap : Nat} {E : List Ent} (h : HeapW w g cap E) (i : Nat) : w.frozen? ⟨g, i, none⟩ = false := by
  obtain ⟨⟨r, h1, _⟩, _⟩ := h
  exact h1.free i
theorem HeapW.le {w : World} {g cap : Nat} {E : List Ent} (h : HeapW w g cap E) : E.length ≤ maxLen := by obtain ⟨⟨r, _, h1, h2⟩, _⟩ := h; omega
theorem HeapW.ne {w : World} {g cap : Nat} {E : List Ent} (h : HeapW w g cap E) {i : Nat} {e : Ent} (he : E[i]? = some e) : e.blk ≠ g := by
  rintro rfl
  have := (List.nodup_cons.1 h.nodup).1
  exact this (List.mem_map.2 ⟨e, List.mem_of_getElem? he, rfl⟩)
theorem HeapW.ne2 {w : World} {g cap : Nat} {E : List Ent} (h : HeapW w g cap E) {i j : Nat} {e f : Ent} (he : E[i]? = some e) (hf : E[j]? = some f) (hij : i ≠ j) : e.blk ≠ f.blk := by
  intro e1
  have h2 := (List.nodup_cons.1 h.nodup).2
  have a : (E.map Ent.blk)[i]? = some e.blk := by rw [List.getElem?_map, he]; rfl
  have b : (E.map Ent.blk)[j]? = some e.blk := by rw [List.getElem?_map, hf, e1]; rfl
  exact hij ((List.getElem?_inj (List.getElem?_eq_some_iff.1 a).1 h2).1 (a.trans b.symm))
/-- How the numbers stand. -/
def useds (E : List Ent) (k : Nat) : Nat := (E[k]?.map Ent.used).getD 0
theorem useds_at {E : List Ent} {i : Nat} {e : Ent} (he : E[i]? = some e) : useds E i = e.used := by simp [useds, he]

/-! ### How container/heap reaches the order's methods -/
theorem m_less_load (a : Addr) (w : World) : (method 300 116 (.pointer (some a)) "Less").run Try.prog w = (do let x ← loadVar 107 a; pure (128, x) : Sem (FuncId × Value)).run Try.prog w := by kernel_rfl
theorem load_slice (a : Addr) (w : World) (s : Option Addr) (n c : Nat) (h : w.cell? a = some (.slice s n c)) : (loadVar 107 a).run Try.prog w = .ok (.slice s n c) w := by
  go_simp
theorem m_swap_load (a : Addr) (w : World) : (method 300 116 (.pointer (some a)) "Swap").run Try.prog w = (do let x ← loadVar 107 a; pure (129, x) : Sem (FuncId × Value)).run Try.prog w := by kernel_rfl
theorem m_len_load (a : Addr) (w : World) : (method 300 116 (.pointer (some a)) "Len").run Try.prog w = (do let x ← loadVar 107 a; pure (127, x) : Sem (FuncId × Value)).run Try.prog w := by kernel_rfl
theorem m_push (a : Addr) (w : World) : (method 300 116 (.pointer (some a)) "Push").run Try.prog w = .ok (131, .pointer (some a)) w := by kernel_rfl
theorem m_pop (a : Addr) (w : World) : (method 300 116 (.pointer (some a)) "Pop").run Try.prog w = .ok (130, .pointer (some a)) w := by kernel_rfl
theorem m_less {a : Addr} {w : World} {s : Option Addr} {n c : Nat} (h : w.cell? a = some (.slice s n c)) : (method 300 116 (.pointer (some a)) "Less").run Try.prog w = .ok (128, .slice s n c) w := by
  rw [m_less_load, Sem.run_bind, load_slice a w s n c h]; rfl
theorem m_swap {a : Addr} {w : World} {s : Option Addr} {n c : Nat} (h : w.cell? a = some (.slice s n c)) : (method 300 116 (.pointer (some a)) "Swap").run Try.prog w = .ok (129, .slice s n c) w := by
  rw [m_swap_load, Sem.run_bind, load_slice a w s n c h]; rfl
theorem m_len {a : Addr} {w : World} {s : Option Addr} {n c : Nat} (h : w.cell? a = some (.slice s n c)) : (method 300 116 (.pointer (some a)) "Len").run Try.prog w = .ok (127, .slice s n c) w := by
  rw [m_len_load, Sem.run_bind, load_slice a w s n c h]; rfl

theorem oLen_any (w : World) (s : Option Addr) (n c : Nat) : Calls Try.prog 127 #[.slice s n c] w fun e w' => e = .returned (.int .i64 n) ∧ w = w' := by
  go_enter Try.func127, Try.ntmps127
  go_wp2
  go_ret
  exact ⟨rfl, rfl⟩

set_option maxHeartbeats 800000 in
theorem oLess_any {w : World} {g cap : Nat} {E : List Ent} (h : HeapW w g cap E) {i k : Nat} {e f : Ent} (he : E[i]? = some e) (hf : E[k]? = some f) :
    Calls Try.prog 128 #[.slice (some ⟨g, 0, none⟩) E.length cap, .int .i64 i, .int .i64 k] w fun x w' => x = .returned (.bool (decide (e.used < f.used))) ∧ ∃ q, w' = w.drewN q := by
  have ci := h.at he
  have ck := h.at hf
  have ui := (h.slot i e he).cell (i := 5) rfl
  have uk := (h.slot k f hf).cell (i := 5) rfl
  have hi := (List.getElem?_eq_some_iff.1 he).1
  have hk := (List.getElem?_eq_some_iff.1 hf).1
  have hle := h.le
  generalize E.length = n at *
  clear h he hf
  unfold maxLen at hle
  go_enter Try.func128, Try.ntmps128
  go_wp2
  go_quiet (fail)
  go_wp2
  go_ret
  exact ⟨by simp, nq, rfl⟩
end Go.Proofs.Ytahaecieklfhkaa
