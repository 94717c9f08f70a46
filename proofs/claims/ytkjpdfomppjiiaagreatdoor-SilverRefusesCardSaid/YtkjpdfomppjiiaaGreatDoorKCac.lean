/- The walks of package cache: New, Drop, Counts; and what is said of a nil cache. -/
import Derived.Test.YtkjpdfomppjiiaaGreatDoorKA
import Derived.Test.YtkjpdfomppjiiaaGreatDoorRows
import Derived.OwnWalk
import Derived.Deep.OwnRows
import Derived.Deep.RegionWith
/- Plain facts on a heap that lies in a row, told by the numbers that stand at its places. No program is named here. -/
namespace Go.Proofs.YtkjpdfomppjiiaaGreatDoor

def Hp (u : Nat → Nat) (n : Nat) : Prop := ∀ k, k < n → 0 < k → u ((k - 1) / 2) ≤ u k
end Go.Proofs.YtkjpdfomppjiiaaGreatDoor
/- The walks of package cache: its order's methods, which container/heap calls. -/
namespace Go.Proofs.YtkjpdfomppjiiaaGreatDoor
open Go.RowKit

structure Ent where
 blk : Nat
 addr : Int
 gen : Nat
 sum : Nat
 kind : Nat
 pay : ByteArray
 used : Nat
def Ent.ptr (e : Ent) : Value := .pointer (some ⟨e.blk, 0, none⟩)
def Ent.cells (e : Ent) (place : Nat) : List Value := [.int .i64 e.addr, .int .u64 e.gen, .int .u32 e.sum, .int .u8 e.kind, .string e.pay, .int .u64 e.used, .int .i64 place]
instance : Inhabited Ent := ⟨⟨0, 0, 0, 0, 0, ⟨#[]⟩, 0⟩⟩

structure HeapW (w : World) (g cap : Nat) (E : List Ent) : Prop where
 row : ∃ r, Blk w g 231 (E.map Ent.ptr ++ r) ∧ E.length + r.length = cap ∧ cap ≤ maxLen
 slot : ∀ (i : Nat) (e : Ent), E[i]? = some e → Blk w e.blk 234 (e.cells i)
 nodup : (g :: E.map Ent.blk).Nodup
theorem HeapW.keep {w w1 : World} {g cap : Nat} {E : List Ent} (h : HeapW w g cap E) {L : List Nat} (hm : Mods L w w1) (hn : ∀ k ∈ g :: E.map Ent.blk, k ∉ L) : HeapW w1 g cap E := by
 obtain ⟨⟨r, h1, h2⟩, h3, h4⟩ := h
 refine ⟨⟨r, h1.keep hm (hn g (by simp)), h2⟩, fun i e he => (h3 i e he).keep hm (hn _ ?_), h4⟩
 exact List.mem_cons_of_mem _ (List.mem_map.2 ⟨e, List.mem_of_getElem? he, rfl⟩)
theorem HeapW.drewN {w : World} {g cap : Nat} {E : List Ent} (h : HeapW w g cap E) (q : Nat) : HeapW (w.drewN q) g cap E := ⟨h.row, h.slot, h.nodup⟩
theorem HeapW.at {w : World} {g cap : Nat} {E : List Ent} (h : HeapW w g cap E) {i : Nat} {e : Ent} (he : E[i]? = some e) : w.cell? ⟨g, i, none⟩ = some (.pointer (some ⟨e.blk, 0, none⟩)) := by
 obtain ⟨⟨r, h1, _⟩, _⟩ := h
 refine h1.cell ?_
 have hi := (List.getElem?_eq_some_iff.1 he).1
 rw [List.getElem?_append_left (by simpa using hi), List.getElem?_map, he]
 rfl
theorem HeapW.free {w : World} {g cap : Nat} {E : List Ent} (h : HeapW w g cap E) (i : Nat) : w.frozen? ⟨g, i, none⟩ = false := by
 obtain ⟨⟨r, h1, _⟩, _⟩ := h
 exact h1.free i
theorem HeapW.le {w : World} {g cap : Nat} {E : List Ent} (h : HeapW w g cap E) : E.length ≤ maxLen := by obtain ⟨⟨r, _, h1, h2⟩, _⟩ := h; omega
theorem HeapW.ne {w : World} {g cap : Nat} {E : List Ent} (h : HeapW w g cap E) {i : Nat} {e : Ent} (he : E[i]? = some e) : e.blk ≠ g := by
 rintro rfl
 have := (List.nodup_cons.1 h.nodup).1
 exact this (List.mem_map.2 ⟨e, List.mem_of_getElem? he, rfl⟩)
def useds (E : List Ent) (k : Nat) : Nat := (E[k]?.map Ent.used).getD 0
end Go.Proofs.YtkjpdfomppjiiaaGreatDoor
/- The walks of package cache: the order's Swap, Pop and Push. -/

/- The walks of container/heap over package cache's order: up and down. -/

/- The walks of container/heap over package cache's order: down. -/

/- The walks of container/heap over package cache's order: Fix, Remove and Push. -/

/- The walks of container/heap over package cache's order: Remove. -/

/- The walks of container/heap over package cache's order: Push. -/
namespace Go.Proofs.YtkjpdfomppjiiaaGreatDoor
open Go.RowKit

def OrdW (w : World) (v : Value) (E : List Ent) : Prop := (v = .slice none 0 0 ∧ E = []) ∨ ∃ g cap, v = .slice (some ⟨g, 0, none⟩) E.length cap ∧ HeapW w g cap E
def obk (v : Value) : List Nat := v.ownBlock.toList
theorem OrdW.slot {w : World} {v : Value} {E : List Ent} (h : OrdW w v E) : ∀ (i : Nat) (e : Ent), E[i]? = some e → Blk w e.blk 234 (e.cells i) := by
 rcases h with ⟨rfl, rfl⟩ | ⟨g, cap, rfl, hH⟩
 ·intro i e he; simp at he
 ·exact hH.slot
theorem OrdW.nodup {w : World} {v : Value} {E : List Ent} (h : OrdW w v E) : (obk v ++ E.map Ent.blk).Nodup := by
 rcases h with ⟨rfl, rfl⟩ | ⟨g, cap, rfl, hH⟩
 ·simp [obk, Value.ownBlock]
 ·simpa [obk, Value.ownBlock] using hH.nodup
end Go.Proofs.YtkjpdfomppjiiaaGreatDoor
/- The walks of container/heap over package cache's order: Push; then the cache's use. -/

/- The walks of package cache: use, remove. -/
namespace Go.Proofs.YtkjpdfomppjiiaaGreatDoor
open Go.RowKit

def Ent.at (e : Ent) (t : Nat) : Ent := { e with used := t }
end Go.Proofs.YtkjpdfomppjiiaaGreatDoor
/- What a cache is, and the walks of remove and Drop. -/
namespace Go.Proofs.YtkjpdfomppjiiaaGreatDoor
open Go.RowKit

def kvC (a : Int) : Value := .int .i64 a
def mapF : List (Int × Value) → Int → Option Value
 | [], _ => none
 | p :: l, a => if p.1 = a then some p.2 else mapF l a
def prs (E : List Ent) : List (Int × Value) := E.map fun e => (e.addr, e.ptr)
structure CS where
 slots : Nat
 E : List Ent
 tick : Nat
 f0 : Nat
 f1 : Nat
def CS.head (S : CS) (mb : Nat) (v : Value) : List Value := [.int .i64 S.slots, .map (some mb), v, .int .u64 S.tick, .int .i64 S.f0, .int .i64 S.f1]
structure CS.Ok (S : CS) : Prop where
 adr : (S.E.map Ent.addr).Nodup
 tik : ∀ e ∈ S.E, e.used ≤ S.tick
 hp : Hp (useds S.E) S.E.length
 len : S.E.length ≤ S.slots
 slo : S.slots ≤ 4096
 tk : S.tick < 100000000000
 c0 : S.f0 < 100000000000
 c1 : S.f1 < 100000000000
def IsCache (w : World) (b : Nat) (fp : List Nat) (S : CS) : Prop :=
 ∃ mb v, fp = b :: mb :: (obk v ++ S.E.map Ent.blk) ∧ fp.Nodup ∧ Blk w b 224 (S.head mb v) ∧ MapK kvC w mb (mapF (prs S.E)) S.E.length ∧ OrdW w v S.E ∧ S.Ok
theorem OrdW.keep {w w1 : World} {v : Value} {E : List Ent} (h : OrdW w v E) {L : List Nat} (hm : Mods L w w1) (hn : ∀ k ∈ obk v ++ E.map Ent.blk, k ∉ L) : OrdW w1 v E := by
 rcases h with h | ⟨g, cap, rfl, h⟩
 ·exact .inl h
 ·exact .inr ⟨g, cap, rfl, h.keep hm (fun k hk => hn k (by simpa [obk, Value.ownBlock] using hk))⟩
theorem OrdW.lt {w : World} {v : Value} {E : List Ent} (h : OrdW w v E) : ∀ k ∈ obk v ++ E.map Ent.blk, k < w.heap.size := by
 intro k hk
 rcases List.mem_append.1 hk with hk | hk
 ·rcases h with ⟨rfl, _⟩ | ⟨g, cap, rfl, ⟨r, h1, _⟩, _⟩
  ·simp [obk, Value.ownBlock] at hk
  ·simp [obk, Value.ownBlock] at hk; subst hk; exact h1.lt
 ·obtain ⟨x, hx, rfl⟩ := List.mem_map.1 hk
  obtain ⟨j, hj⟩ := List.getElem?_of_mem hx
  exact (h.slot j x hj).lt
theorem IsCache.keep {w w1 : World} {b : Nat} {fp : List Nat} {S : CS} (h : IsCache w b fp S) {L : List Nat} (hm : Mods L w w1) (hn : ∀ k ∈ fp, k ∉ L) : IsCache w1 b fp S := by
 obtain ⟨mb, v, rfl, h1, h2, h3, h4, h5⟩ := h
 exact ⟨mb, v, rfl, h1, h2.keep hm (hn b (by simp)), h3.keep hm (hn mb (by simp)), h4.keep hm (fun k hk => hn k (List.mem_cons_of_mem _ (List.mem_cons_of_mem _ hk))), h5⟩
theorem IsCache.lt {w : World} {b : Nat} {fp : List Nat} {S : CS} (h : IsCache w b fp S) : ∀ k ∈ fp, k < w.heap.size := by
 obtain ⟨mb, v, rfl, h1, h2, h3, h4, h5⟩ := h
 intro k hk
 rcases List.mem_cons.1 hk with rfl | hk
 ·exact h2.lt
 rcases List.mem_cons.1 hk with rfl | hk
 ·exact h3.lt
 ·exact h4.lt k hk
theorem IsCache.drewN {w : World} {b : Nat} {fp : List Nat} {S : CS} (h : IsCache w b fp S) (q : Nat) : IsCache (w.drewN q) b fp S := h.keep ((Mods.refl [] w).drewN q) (by simp)

end Go.Proofs.YtkjpdfomppjiiaaGreatDoor
/- What a cache keeps, the one that was used last first: what remove, use and Put make of it. No program is named here. -/
namespace Go.Proofs.YtkjpdfomppjiiaaGreatDoor

structure Kept where
 addr : Int
 gen : Nat
 sum : Nat
 kind : Nat
 pay : ByteArray
def Ent.body (e : Ent) : Kept := ⟨e.addr, e.gen, e.sum, e.kind, e.pay⟩
def Rel (E : List Ent) (R : List Kept) : Prop := ∃ D : List Ent, D.Perm E ∧ D.Pairwise (fun x y => y.used < x.used) ∧ R = D.map Ent.body
theorem rel_nil : Rel [] [] := ⟨[], List.Perm.refl _, List.Pairwise.nil, rfl⟩
theorem Rel.length {E : List Ent} {R : List Kept} (h : Rel E R) : R.length = E.length := by
 obtain ⟨D, hp, _, rfl⟩ := h
 rw [List.length_map]; exact hp.length_eq
def Kept.is (x : Kept) (a : Int) (g s : Nat) : Bool := decide (x.addr = a) && decide (x.gen = g) && decide (x.sum = s)
end Go.Proofs.YtkjpdfomppjiiaaGreatDoor
namespace Go.Proofs.YtkjpdfomppjiiaaGreatDoor
open Go.RowKit

def IsC (w : World) (b : Nat) (fp : List Nat) (n : Nat) (R : List Kept) (c0 c1 t : Nat) : Prop :=
 ∃ S : CS, IsCache w b fp S ∧ S.slots = n ∧ Rel S.E R ∧ S.f0 = c0 ∧ S.f1 = c1 ∧ S.tick ≤ t
theorem IsC.keep {w w1 : World} {b : Nat} {fp : List Nat} {n : Nat} {R : List Kept} {c0 c1 t : Nat} (h : IsC w b fp n R c0 c1 t) {L : List Nat} (hm : Mods L w w1) (hn : ∀ k ∈ fp, k ∉ L) : IsC w1 b fp n R c0 c1 t := by
 obtain ⟨S, h1, h2⟩ := h
 exact ⟨S, h1.keep hm hn, h2⟩
theorem IsC.lt {w : World} {b : Nat} {fp : List Nat} {n : Nat} {R : List Kept} {c0 c1 t : Nat} (h : IsC w b fp n R c0 c1 t) : ∀ k ∈ fp, k < w.heap.size := by
 obtain ⟨S, h1, h2⟩ := h
 exact h1.lt
theorem IsC.drewN {w : World} {b : Nat} {fp : List Nat} {n : Nat} {R : List Kept} {c0 c1 t : Nat} (h : IsC w b fp n R c0 c1 t) (q : Nat) : IsC (w.drewN q) b fp n R c0 c1 t := h.keep ((Mods.refl [] w).drewN q) (by simp)
theorem IsC.len {w : World} {b : Nat} {fp : List Nat} {n : Nat} {R : List Kept} {c0 c1 t : Nat} (h : IsC w b fp n R c0 c1 t) : R.length ≤ n := by
 obtain ⟨S, ⟨mb, v, rfl, _, _, _, _, hk⟩, hs, hr, _⟩ := h
 rw [hr.length, ← hs]; exact hk.len

theorem run_makeMapC (W : World) : (Instr.makeMap 219 none).run Tryz.prog W = .ok (.map (some W.heap.size)) (W.alloc (.map #[] 0)) := by kernel_rfl
set_option maxHeartbeats 400000 in
theorem cNew_any (W : World) (n : Nat) (h1 : 1 ≤ n) (h2 : n ≤ 4096) :
  Calls Tryz.prog 62 #[.int .i64 n] W fun e w' => ∃ b fp, e = .returned (.tuple #[.pointer (some ⟨b, 0, none⟩), .int .i64 0]) ∧ Mods [] W w' ∧ IsC w' b fp n [] 0 0 0 ∧ (∀ k ∈ fp, W.heap.size ≤ k) := by
 have hmm := run_makeMapC W
 obtain ⟨w1, hw1⟩ : ∃ w1, W.alloc (.map #[] 0) = w1 := ⟨_, rfl⟩
 obtain ⟨w2, hw2⟩ : ∃ w2, w1.alloc (.cells #[.int .i64 n, .map (some W.heap.size), .slice none 0 0, .int .u64 0, .int .i64 0, .int .i64 0] 224) = w2 := ⟨_, rfl⟩
 have hsz : w1.heap.size = W.heap.size + 1 := by rw [← hw1]; simp
 have hm1 : Mods [] W w1 := by rw [← hw1]; exact (Mods.refl _ _).alloc _
 have hm2 : Mods [] w1 w2 := by rw [← hw2]; exact (Mods.refl _ _).alloc _
 have hB : Blk w2 w1.heap.size 224 (CS.head ⟨n, [], 0, 0, 0⟩ W.heap.size (.slice none 0 0)) := by rw [← hw2]; exact Blk.new w1 224 _
 have hM : MapK kvC w2 W.heap.size (mapF (prs [])) 0 := by
  have := (MapK.made (kv := kvC) W)
  rw [hw1] at this
  exact this.keep hm2 (by simp)
 have HF : Hid (∃ fp, Mods [] W w2 ∧ IsC w2 w1.heap.size fp n [] 0 0 0 ∧ (∀ k ∈ fp, W.heap.size ≤ k)) := by
  refine ⟨[w1.heap.size, W.heap.size], hm1.trans hm2 (by simp), ⟨⟨n, [], 0, 0, 0⟩, ⟨W.heap.size, .slice none 0 0, rfl, ?_, hB, hM, .inl ⟨rfl, rfl⟩, ⟨by simp, by simp, by intro k hk; simp at hk, by simp, h2, by simp, by simp, by simp⟩⟩, rfl, rel_nil, rfl, rfl, Nat.le_refl _⟩, ?_⟩
  ·simp; omega
  ·intro k hk; simp at hk; omega
 rw [hsz] at HF
 clear hB hM hm1 hm2
 rw [hw1] at hmm
 have h3 : ¬ n < 1 := by omega
 go_enter Tryz.func62, Tryz.ntmps62
 go_wp2
 go_ret2
 obtain ⟨fp, hf⟩ := HF.out
 exact ⟨_, fp, rfl, hf⟩

end Go.Proofs.YtkjpdfomppjiiaaGreatDoor
