/- env.with: a bare image with its check. -/
import Derived.Handy
import Derived.WalkSpells
import Derived.WalkLawsBesides
import Derived.BigQuiet
import Derived.Deep.QuietTactic
import Derived.Lib.Hide
import Derived.OneCell
import Derived.ProofKit
import Derived.OpenShut
import Derived.Carry
import Derived.OwnWalk
import Derived.Deep.Slices
import Derived.Laws.StructEq
import Derived.Test.YtkjpdfomppjiiaaGreatDoorProg
import Derived.Laws.MakeOwn
import Derived.Lib.ConvBytes
import Derived.Maps.AppendAt
import Derived.Maps.RangeRun
import Derived.MapKept
import Derived.Lib.Strings
import Derived.Laws.Bits64b
import Derived.Deep.AppendLies
import Derived.Deep.RegionLaw
import Derived.Laws.BitsAllLaws
/- Plain facts on worlds: which blocks a step may have turned; a block that is known whole. No program is named here. -/
namespace Go.Proofs.YtkjpdfomppjiiaaGreatDoor
open Go.RowKit

structure Mods (L : List Nat) (w w1 : World) : Prop where
 os : w1.os = w.os
 tape : w1.tape = w.tape
 output : w1.output = w.output
 size : w.heap.size ≤ w1.heap.size
 block : ∀ k, k < w.heap.size → k ∉ L → w1.heap[k]? = w.heap[k]?

theorem Mods.refl (L : List Nat) (w : World) : Mods L w w := ⟨rfl, rfl, rfl, Nat.le_refl _, fun _ _ _ => rfl⟩
theorem Mods.mono {L L1 : List Nat} {w w1 : World} (h : Mods L w w1) (hl : ∀ k ∈ L, k ∈ L1) : Mods L1 w w1 :=
 ⟨h.os, h.tape, h.output, h.size, fun k hk hn => h.block k hk (fun hm => hn (hl k hm))⟩
theorem Mods.trans {L L1 : List Nat} {a b c : World} (h : Mods L a b) (g : Mods L1 b c) (hl : ∀ k ∈ L1, k ∈ L ∨ a.heap.size ≤ k) : Mods L a c :=
 ⟨g.os.trans h.os, g.tape.trans h.tape, g.output.trans h.output, Nat.le_trans h.size g.size, fun k hk hn =>
  (g.block k (Nat.lt_of_lt_of_le hk h.size) (fun hm => by rcases hl k hm with h1 | h1; exact hn h1; omega)).trans (h.block k hk hn)⟩
theorem Mods.drew {L : List Nat} {a b : World} (h : Mods L a b) : Mods L a b.drew := ⟨h.os, h.tape, h.output, h.size, h.block⟩
theorem Mods.drewN {L : List Nat} {a b : World} (h : Mods L a b) (n : Nat) : Mods L a (b.drewN n) := ⟨h.os, h.tape, h.output, h.size, h.block⟩
theorem Mods.alloc {L : List Nat} {a b : World} (h : Mods L a b) (o : Obj) : Mods L a (b.alloc o) :=
 ⟨h.os, h.tape, h.output, by have := h.size; simp; omega, fun k hk hn => (Below.heap_alloc _ _ _ (Nat.lt_of_lt_of_le hk h.size)).trans (h.block k hk hn)⟩
theorem Mods.setCell {L : List Nat} {a b : World} (h : Mods L a b) {p : Addr} (hp : p.block ∈ L ∨ a.heap.size ≤ p.block) (u : Value) : Mods L a (b.setCell p u) :=
 ⟨h.os, h.tape, h.output, by simpa using h.size, fun k hk hn => (Below.heap_setCell _ _ _ _ (by rintro rfl; rcases hp with h1 | h1; exact hn h1; omega)).trans (h.block k hk hn)⟩
theorem Mods.grown {L : List Nat} {a b c : World} (h : Mods L a b) {row : Option Nat} (g : b.grownBy c row) (hr : ∀ k, row = some k → k ∈ L ∨ a.heap.size ≤ k) : Mods L a c :=
 ⟨g.os.trans h.os, g.tape.trans h.tape, g.output.trans h.output, Nat.le_trans h.size g.size, fun k hk hn =>
  (g.block k (Nat.lt_of_lt_of_le hk h.size) (fun e => by rcases hr k e.symm with h1 | h1; exact hn h1; omega)).trans (h.block k hk hn)⟩
theorem Mods.below {w w1 : World} (h : Mods [] w w1) : Below w.heap.size w w1 := ⟨h.os, h.tape, h.output, h.size, fun k hk => h.block k hk (by simp)⟩
theorem Mods.of_below {w w1 : World} (h : Below w.heap.size w w1) (L : List Nat) : Mods L w w1 := ⟨h.os, h.tape, h.output, h.size, fun k hk _ => h.block k hk⟩
theorem Mods.keep {L : List Nat} {w w1 : World} (h : Mods L w w1) {k : Nat} {o : Obj} (ho : w.heap[k]? = some o) (hn : k ∉ L) : w1.heap[k]? = some o :=
 (h.block k (lt_of_block ho) hn).trans ho
theorem Mods.cell {L : List Nat} {w w1 : World} (h : Mods L w w1) {p : Addr} (hk : p.block < w.heap.size) (hn : p.block ∉ L) : w1.cell? p = w.cell? p :=
 World.cell?_of_block (w := w) (h.block p.block hk hn)

def Blk (w : World) (b : Nat) (t : TypeId) (l : List Value) : Prop := w.heap[b]? = some (.cells l.toArray t (0, 0))
theorem Blk.lt {w : World} {b : Nat} {t : TypeId} {l : List Value} (h : Blk w b t l) : b < w.heap.size := lt_of_block h
theorem Blk.cell {w : World} {b : Nat} {t : TypeId} {l : List Value} (h : Blk w b t l) {i : Nat} {v : Value} (hi : l[i]? = some v) : w.cell? ⟨b, i, none⟩ = some v := by
 unfold Blk at h; simp [World.cell?, h, hi]
theorem Blk.free {w : World} {b : Nat} {t : TypeId} {l : List Value} (h : Blk w b t l) (i : Nat) : w.frozen? ⟨b, i, none⟩ = false := by
 unfold Blk at h; simp [World.frozen?, h]
theorem Blk.keep {w w1 : World} {b : Nat} {t : TypeId} {l : List Value} (h : Blk w b t l) {L : List Nat} (hm : Mods L w w1) (hn : b ∉ L) : Blk w1 b t l := hm.keep h hn
theorem Blk.drewN {w : World} {b : Nat} {t : TypeId} {l : List Value} (h : Blk w b t l) (n : Nat) : Blk (w.drewN n) b t l := h
theorem Blk.alloc {w : World} {b : Nat} {t : TypeId} {l : List Value} (h : Blk w b t l) (o : Obj) : Blk (w.alloc o) b t l :=
 (Below.heap_alloc _ _ _ (lt_of_block h)).trans h
theorem Blk.set {w : World} {b : Nat} {t : TypeId} {l : List Value} (h : Blk w b t l) (i : Nat) (v : Value) : Blk (w.setCell ⟨b, i, none⟩ v) b t (l.set i v) := by
 have hlt := lt_of_block h
 have h' : w.heap[b] = .cells l.toArray t (0, 0) := by simpa [Blk, Array.getElem?_eq_getElem hlt] using h
 show (w.heap.modify b _)[b]? = _
 rw [Array.getElem?_eq_getElem (by simpa using hlt), Array.getElem_modify_self, h']
 simp
theorem Blk.setOther {w : World} {b : Nat} {t : TypeId} {l : List Value} (h : Blk w b t l) {p : Addr} (hp : b ≠ p.block) (v : Value) : Blk (w.setCell p v) b t l :=
 (Below.heap_setCell _ _ _ _ hp).trans h
theorem Blk.new (w : World) (t : TypeId) (l : List Value) : Blk (w.alloc (.cells l.toArray t (0, 0))) w.heap.size t l := by
 show (w.heap.push _)[w.heap.size]? = _
 simp
theorem addr_add0 (c j : Nat) : (⟨c, 0, none⟩ : Addr).add j = ⟨c, j, none⟩ := by
 unfold Addr.add; split <;> simp_all
theorem Blk.inj {w : World} {b : Nat} {t t1 : TypeId} {l l1 : List Value} (h : Blk w b t l) (h1 : Blk w b t1 l1) : l = l1 := by
 unfold Blk at h h1; rw [h] at h1; injection h1 with h1; injection h1 with h1; simpa using congrArg Array.toList h1
end Go.Proofs.YtkjpdfomppjiiaaGreatDoor
/- A device, plainly: what each of its methods does, with no program in sight. -/
namespace Go.Proofs.YtkjpdfomppjiiaaGreatDoor

structure Dev where
 sectors : Nat
 size : Nat
 media : List ByteArray
 bad : List Bool
 cache : List (Nat × ByteArray)
 fuse : Nat
 lose : Nat
 stray : Nat
 strays : Int
 off : Bool
 gone : Bool

namespace Dev
structure Ok (D : Dev) : Prop where
 media : D.media.length = D.sectors
 bad : D.bad.length = D.sectors
 sec : D.sectors ≤ 4096
 size0 : 128 ≤ D.size
 size1 : D.size ≤ 1024
 each : ∀ s ∈ D.media, s.size = D.size
 cache : ∀ x ∈ D.cache, x.1 < D.sectors ∧ x.2.size = D.size
def isS (D : Dev) (i : Int) : Bool := decide (0 ≤ i) && decide (i < (D.sectors : Int))
def ready (D : Dev) : Nat := if D.off then 6 else if D.gone then 8 else 0
def late (c : List (Nat × ByteArray)) (i : Nat) : Option ByteArray := (c.reverse.find? fun x => decide (x.1 = i)).map (·.2)
def cur (D : Dev) (i : Nat) : ByteArray := (late D.cache i).getD (D.media.getD i ⟨#[]⟩)
def read (D : Dev) (i : Int) : ByteArray × Nat :=
 if D.ready ≠ 0 then (⟨#[]⟩, D.ready) else if D.isS i = false then (⟨#[]⟩, 3) else if D.bad.getD i.toNat false then (⟨#[]⟩, 7) else (D.cur i.toNat, 0)
def burn (D : Dev) : Nat × Dev :=
 if D.fuse = 0 then (0, D) else if D.fuse = 1 then (6, { D with fuse := 0, off := true }) else (0, { D with fuse := D.fuse - 1 })
def put (D : Dev) (i : Nat) (s : ByteArray) : Dev :=
 let D1 := { D with lose := D.lose - 1, stray := D.stray - 1 }
 if D.stray = 1 then
  if D.lose = 1 ∨ D.isS D.strays = false ∨ D.bad.getD D.strays.toNat false = true then D1 else { D1 with cache := D.cache ++ [(D.strays.toNat, s)] }
 else if D.lose = 1 then D1 else { D1 with cache := D.cache ++ [(i, s)] }
def write (D : Dev) (i : Int) (s : ByteArray) : Nat × Dev :=
 if D.ready ≠ 0 then (D.ready, D) else if D.isS i = false then (3, D) else if s.size ≠ D.size then (2, D) else
  if D.burn.1 ≠ 0 then D.burn else if D.bad.getD i.toNat false then (7, D.burn.2) else (0, D.burn.2.put i.toNat s)
def settleAll (m : List ByteArray) (c : List (Nat × ByteArray)) : List ByteArray := c.foldl (fun m x => m.set x.1 x.2) m
def flush (D : Dev) : Nat × Dev :=
 if D.ready ≠ 0 then (D.ready, D) else if D.burn.1 ≠ 0 then D.burn else (0, { D.burn.2 with media := settleAll D.media D.cache, cache := [] })
def new (n s : Nat) : Dev := ⟨n, s, List.replicate n ⟨Array.replicate s 0⟩, List.replicate n false, [], 0, 0, 0, 0, false, false⟩
def right (n s : Int) : Bool := decide (8 ≤ n) && decide (n ≤ 4096) && decide (128 ≤ s) && decide (s ≤ 1024) && decide (s % 64 = 0)

theorem late_nil (i : Nat) : late [] i = none := rfl
theorem late_snoc (c : List (Nat × ByteArray)) (j i : Nat) (s : ByteArray) : late (c ++ [(j, s)]) i = if j = i then some s else late c i := by
 unfold late
 rw [List.reverse_append, List.reverse_cons, List.reverse_nil, List.nil_append, List.singleton_append]
 by_cases h : j = i
 ·simp [h]
 ·simp [h]
end Dev
end Go.Proofs.YtkjpdfomppjiiaaGreatDoor
/- Numbers as bytes, checks of texts, tables and images: plainly, with no program in sight. -/
namespace Go.Proofs.YtkjpdfomppjiiaaGreatDoor

def le8 : Nat → Nat → List UInt8
 | 0, _ => []
 | k + 1, n => UInt8.ofNat (n % 256) :: le8 k (n / 256)
def un8 : List UInt8 → Nat
 | [] => 0
 | b :: l => b.toNat + 256 * un8 l
theorem le8_len : ∀ k n, (le8 k n).length = k
 | 0, _ => rfl
 | k + 1, n => by simp [le8, le8_len k]
theorem un8_le8 : ∀ k n, un8 (le8 k n) = n % 256 ^ k
 | 0, n => by simp [le8, un8, Nat.mod_one]
 | k + 1, n => by
  simp only [le8, un8, un8_le8 k]
  rw [show (UInt8.ofNat (n % 256)).toNat = n % 256 by simp, Nat.pow_succ, Nat.mul_comm (256 ^ k) 256, Nat.mod_mul]
def leW : List Nat → List Nat → List UInt8
 | w :: ws, n :: ns => le8 w n ++ leW ws ns
 | _, _ => []
def unW : List Nat → List UInt8 → List Nat
 | [], _ => []
 | w :: ws, s => un8 (s.take w) :: unW ws (s.drop w)
def FitsW (ws ns : List Nat) : Prop := ws.length = ns.length ∧ ∀ (i w n : Nat), ws[i]? = some w → ns[i]? = some n → 1 ≤ w ∧ w ≤ 8 ∧ n < 256 ^ w
theorem FitsW.tail {w n : Nat} {ws ns : List Nat} (h : FitsW (w :: ws) (n :: ns)) : FitsW ws ns :=
 ⟨by have := h.1; simpa using this, fun i w n h1 h2 => h.2 (i + 1) w n (by simpa using h1) (by simpa using h2)⟩
theorem leW_len : ∀ {ws ns : List Nat}, ws.length = ns.length → (leW ws ns).length = ws.sum
 | [], [], _ => rfl
 | w :: ws, n :: ns, h => by simp [leW, le8_len, leW_len (ws := ws) (ns := ns) (by simpa using h)]
theorem unW_leW : ∀ {ws ns : List Nat}, FitsW ws ns → ∀ r, unW ws (leW ws ns ++ r) = ns
 | [], [], _, _ => rfl
 | [], n :: ns, h, _ => by have := h.1; simp at this
 | w :: ws, [], h, _ => by have := h.1; simp at this
 | w :: ws, n :: ns, h, r => by
  have h0 := h.2 0 w n rfl rfl
  simp only [leW, unW, List.append_assoc]
  rw [List.take_append_of_le_length (by rw [le8_len]; exact Nat.le_refl _), List.take_of_length_le (by rw [le8_len]; exact Nat.le_refl _), un8_le8, Nat.mod_eq_of_lt h0.2.2,
   show (le8 w n ++ (leW ws ns ++ r)).drop w = leW ws ns ++ r by rw [List.drop_append_of_le_length (by rw [le8_len]; exact Nat.le_refl _), List.drop_of_length_le (by rw [le8_len]; exact Nat.le_refl _), List.nil_append], unW_leW h.tail r]

def crcBit (r : Nat) : Nat := if r % 2 = 1 then (r / 2) ^^^ 2197175160 else r / 2
def crcIt : Nat → Nat → Nat
 | 0, r => r
 | k + 1, r => crcIt k (crcBit r)
def crcTab (b : Nat) : Nat := crcIt 8 b
def crcStep (r x : Nat) : Nat := (r / 256) ^^^ crcTab ((r % 256) ^^^ x)
def crcRun (r : Nat) (l : List UInt8) : Nat := l.foldl (fun r b => crcStep r b.toNat) r
def crcOn (c : Nat) (l : List UInt8) : Nat := 4294967295 - crcRun (4294967295 - c) l
theorem crcTab_lt : ∀ b, b < 256 → crcTab b < 4294967296 := by decide +kernel
end Go.Proofs.YtkjpdfomppjiiaaGreatDoor
/- How a law's row is closed: the call answers true and turns nothing that was there; so each argument reads as it read. No program is named here. -/
namespace Go.Proofs.YtkjpdfomppjiiaaGreatDoor
open Go.ChangeShapes Go.WideShapes Go.ChangeAt Go.RowKit

theorem trodAll_below {H : Type} {enc : TypeId × Value → H} {P : Program} (hl : laidOutB P = true) {W W' : World} (hb : Below W.heap.size W W') :
  ∀ (ts : List TypeId) (vs : List Value) (ds : List (DataW H)) (ps : List MemPlace), (∀ t ∈ ts, P.readableRec t = true ∧ t < P.types.size) →
   DataW.TrodAll enc P W 0 (fun _ => true) true ts vs ds ps → (∀ x ∈ ps, x.block < W.heap.size) →
   DataW.TrodAll enc P W' 0 (fun b => decide (b < W.heap.size)) true ts vs ds ps
 | [], vs, ds, ps, _, h, _ => by
  obtain ⟨rfl, rfl, rfl⟩ := trodAll_nil h
  exact trodAll_mk0
 | t :: ts, vs, ds, ps, ht, h, hlt => by
  obtain ⟨v, vs', d, ds', p, q, rfl, rfl, rfl, h0, h1⟩ := trodAll_cons h
  exact trodAll_cons_mk (Below.trod hl (ht t (by simp)).1 (ht t (by simp)).2 h0 hb (fun x hx => hlt x (by simp [hx])))
   (trodAll_below hl hb ts vs' ds' q (fun u hu => ht u (by simp [hu])) h1 (fun x hx => hlt x (by simp [hx])))

theorem post_law {H : Type} {enc : TypeId × Value → H} {P : Program} {f : Func} {s : ChangeSpec} {tb : TypeId} {apart : Bool} {W W' : World} {args : Array Value} {ds gs : List (DataW H)} {before : List MemPlace}
  (hl : laidOutB P = true) (hp : ∀ t ∈ f.params.toList, P.readableRec t = true ∧ t < P.types.size) (hres : f.resultTypes = #[tb]) (htb : P.underlying tb = some .bool) (hv : s.vars = [])
  (hfn : s.fn H ds = { results := [.lit (.bool true)], args := ds })
  (hW : DataW.Whole enc P f.params.toList s.vars apart W args.toList ds gs before) (hb : Below W.heap.size W W') :
  s.post enc P f apart true false false W args (.bool true) W' := by
 have hW0 := hW
 have hlt : ∀ x ∈ before, x.block < W.heap.size := fun x hx => hW.lt x hx
 obtain ⟨p, q, hA, hV, he, _, _⟩ := hW
 rw [hv] at hV
 obtain ⟨rfl, rfl⟩ := trodVars_none hV
 rw [List.append_nil] at he
 subst he
 have hfn2 : s.fn H (ds ++ []) = { results := [.lit (.bool true)], args := ds } := by rw [List.append_nil]; exact hfn
 refine ⟨ds, [], before, [], before, [], hW0, ?_, ?_, ?_, World.keptBut_mono (fun p hp => ⟨hp, .inr (.inl hp)⟩) (hb.frame (· ∈ before)), fun h => absurd h (by decide)⟩
 ·rw [hfn2, hres]
  exact trodAll_cons_mk (shut_bool htb true) trodAll_mk0
 ·rw [hfn2]
  exact trodAll_below hl hb _ _ _ _ hp hA hlt
 ·rw [hfn2, hv]
  rfl
end Go.Proofs.YtkjpdfomppjiiaaGreatDoor
/- Arguments that are slices: what the reading gives a walk. No program is named here. -/
namespace Go.Proofs.YtkjpdfomppjiiaaGreatDoor
open Go.ChangeShapes Go.WideShapes Go.ChangeAt Go.RowKit

def Row (w : World) (A : Option Addr) (xs : List Value) : Prop := xs = [] ∨ ∃ b off, A = some ⟨b, off, none⟩ ∧ ∀ i u, xs[i]? = some u → w.cell? ⟨b, off + i, none⟩ = some u
def Off (A : Option Addr) (L : List Nat) : Prop := ∀ a, A = some a → a.block ∉ L
theorem Row.lt {w : World} {b off : Nat} {xs : List Value} (h : Row w (some ⟨b, off, none⟩) xs) (hx : xs ≠ []) : b < w.heap.size := by
 rcases h with h | ⟨b', off', h1, h2⟩
 ·exact absurd h hx
 ·injection h1 with h1
  injection h1 with h1 h3
  subst h1
  cases xs with
  | nil => exact absurd rfl hx
  | cons x xs => exact World.block_lt_of_cell? w _ (h2 0 x rfl)
theorem Row.keep {w w1 : World} {A : Option Addr} {xs : List Value} (h : Row w A xs) {L : List Nat} (hm : Mods L w w1) (hn : Off A L) : Row w1 A xs := by
 rcases h with h | ⟨b, off, h1, h2⟩
 ·exact .inl h
 ·refine .inr ⟨b, off, h1, fun i u hi => ?_⟩
  have hc := h2 i u hi
  have hlt := World.block_lt_of_cell? w _ hc
  rw [hm.cell (p := ⟨b, off + i, none⟩) hlt (hn ⟨b, off, none⟩ h1)]
  exact hc
theorem Row.at {w : World} {A : Option Addr} {xs : List Value} (h : Row w A xs) {i : Nat} {u : Value} (hi : xs[i]? = some u) : ∃ b off, A = some ⟨b, off, none⟩ ∧ w.cell? ⟨b, off + i, none⟩ = some u := by
 rcases h with h | ⟨b, off, h1, h2⟩
 ·subst h; cases hi
 ·exact ⟨b, off, h1, h2 i u hi⟩
theorem Row.drewN {w : World} {A : Option Addr} {xs : List Value} (h : Row w A xs) (n : Nat) : Row (w.drewN n) A xs := h
theorem row_of_owns {w : World} {base e n : Nat} {v : Value} {xs : List Value} (h : w.ownsRow base e 1 v n xs) :
  ∃ A cap, v = .slice A n cap ∧ Row w A xs ∧ (∀ a, A = some a → base ≤ a.block) ∧ xs.length = n ∧ n ≤ cap ∧ (A = none → n = 0 ∧ cap = 0) := by
 have h0 := h
 obtain ⟨h1, h2⟩ := h
 rcases h2 with ⟨h2, h3⟩ | ⟨g, cap, cur, hv, hg, hh, hn, hc, hs, hx⟩
 ·subst h2 h3
  refine ⟨none, 0, rfl, .inl (List.eq_nil_of_length_eq_zero (by simpa using h1)), (fun a ha => by cases ha), (by simpa using h1), Nat.le_refl _, fun _ => ⟨rfl, rfl⟩⟩
 ·subst hv
  refine ⟨some ⟨g, 0, none⟩, cap, rfl, .inr ⟨g, 0, rfl, fun i u hi => ?_⟩, fun a ha => by cases ha; exact hg, by simpa using h1, hn, fun h => by cases h⟩
  have := h0.cells (g := g) rfl i u hi
  rw [addr_add0] at this
  rw [Nat.zero_add]; exact this

theorem addr_add (b o j : Nat) : (⟨b, o, none⟩ : Addr).add j = ⟨b, o + j, none⟩ := by
 unfold Addr.add; split <;> simp_all
theorem flat_get {α : Type} {k : Nat} (f : α → List Value) (hf : ∀ a, (f a).length = k) : ∀ {l : List α} {i : Nat} {a : α} {j : Nat}, l[i]? = some a → j < k → (l.flatMap f)[i * k + j]? = (f a)[j]?
 | [], _, _, _, h, _ => by cases h
 | x :: l, 0, a, j, h, hj => by
  simp only [List.getElem?_cons_zero, Option.some.injEq] at h
  subst h
  rw [List.flatMap_cons, List.getElem?_append_left (by rw [hf]; omega)]
  congr 1; omega
 | x :: l, i + 1, a, j, h, hj => by
  have ih := flat_get f hf (l := l) (i := i) (a := a) (j := j) (by simpa using h) hj
  rw [List.flatMap_cons, List.getElem?_append_right (by rw [hf, Nat.add_mul]; omega), hf, ← ih]
  congr 1
  rw [Nat.add_mul]; omega
theorem flat_length {α : Type} {k : Nat} (f : α → List Value) (hf : ∀ a, (f a).length = k) (l : List α) : (l.flatMap f).length = l.length * k := by
 induction l with
 | nil => simp
 | cons x l ih => rw [List.flatMap_cons, List.length_append, ih, hf, List.length_cons, Nat.add_mul]; omega
end Go.Proofs.YtkjpdfomppjiiaaGreatDoor
/- lend: numbers as bytes, for whatever widths: may, Size, right, Write. -/
namespace Go.Proofs.YtkjpdfomppjiiaaGreatDoor
open Go.RowKit

def intsRow (ws : List Nat) : List Value := ws.map fun x => Value.int .i64 (x : Nat)
def u64sRow (ns : List Nat) : List Value := ns.map fun x => Value.int .u64 (x : Nat)
def bytesRow (l : List UInt8) : List Value := l.map fun x => Value.int .u8 (x.toNat : Nat)
def WidthsOk (ws : List Nat) : Prop := ∀ w ∈ ws, 1 ≤ w ∧ w ≤ 8
theorem sum_bound {ws : List Nat} (h : WidthsOk ws) : ws.sum ≤ 8 * ws.length ∧ ws.length ≤ ws.sum := by
 induction ws with
 | nil => simp
 | cons w ws ih =>
  have h1 := ih (fun x hx => h x (by simp [hx]))
  have h2 := h w (by simp)
  simp only [List.sum_cons, List.length_cons]
  omega
theorem lMay_any {W : World} (n : Nat) (h : 1 ≤ n ∧ n ≤ 8) : Calls Tryz.prog 250 #[.int .i64 (n : Nat)] W fun e w' => e = .returned (.bool true) ∧ W = w' := by
 obtain ⟨h1, h2⟩ := h
 go_enter Tryz.func250, Tryz.ntmps250
 go_wp2_with fail
 go_ret
 refine ⟨?_, rfl⟩
 simp
 omega
set_option maxHeartbeats 800000 in
theorem lSize_any {W : World} {A : Option Addr} {ws : List Nat} {n c : Nat} (hr : Row W A (intsRow ws)) (hn : ws.length = n) (hn1 : n < 1000) (hw : WidthsOk ws) :
  Calls Tryz.prog 215 #[.slice A n c] W fun e w' => e = .returned (.int .i64 (ws.sum : Nat)) ∧ W = w' := by
 have HR := Lib.hid hr
 have HN := Lib.hid hn
 have HW := Lib.hid hw
 clear hr hn hw
 go_enter Tryz.func215, Tryz.ntmps215
 go_wp2_with fail
 go_loopw [3, 8] (fun nv iv wr => ∃ k : Nat, k ≤ n ∧ iv = .int .i64 k ∧ nv = .int .i64 ((ws.take k).sum : Nat) ∧ W = wr) (fun _ iv _ => n - (intOf iv).toNat)
 case atStart => exact ⟨0, Nat.zero_le _, rfl, rfl, rfl⟩
 case round =>
  obtain ⟨k, hk, rfl, rfl, rfl⟩ := hrel
  by_cases hkl : k < n
  ·obtain ⟨x, hx⟩ : ∃ x, ws[k]? = some x := ⟨_, List.getElem?_eq_getElem (by rw [HN.out]; exact hkl)⟩
   obtain ⟨bb, ob, rfl, c0⟩ := HR.out.at (i := k) (u := .int .i64 (x : Nat)) (by unfold intsRow; rw [List.getElem?_map, hx]; rfl)
   have hxw := HW.out x (List.mem_of_getElem? hx)
   have ht : (ws.take (k + 1)).sum = (ws.take k).sum + x := by rw [List.take_add_one, hx]; simp
   have hb := (sum_bound (ws := ws.take k) (fun y hy => HW.out y (List.mem_of_mem_take hy))).1
   rw [List.length_take] at hb
   obtain ⟨y, hy⟩ : ∃ y, (ws.take k).sum = y := ⟨_, rfl⟩
   rw [hy] at ht hb ⊢
   obtain ⟨z, hz⟩ : ∃ z, (ws.take (k + 1)).sum = z := ⟨_, rfl⟩
   have HZ := Lib.hid hz
   rw [hz] at ht
   have hwr : IntKind.i64.wrap ((y : Int) + (x : Int)) = (z : Int) := by rw [IntKind.wrap_i64]; omega
   have hm := Lib.hid (fun W => lMay_any (W := W) x hxw)
   clear hx hy hz ht hb
   go_wp2_with (go_at_call 250; refine (hm.out _).mono ?_; rintro e w' ⟨rfl, rfl⟩)
   go_roundw
   case rel => exact ⟨k + 1, by omega, by simp, by rw [HZ.out], by simp⟩
   case measure => simp [intOf]; omega
  ·obtain rfl : k = n := by omega
   have ht : ws.take k = ws := List.take_of_length_le (Nat.le_of_eq HN.out)
   rw [ht]
   go_wp2_with fail
   go_ret
   exact ⟨rfl, rfl⟩
set_option maxHeartbeats 800000 in
theorem lRight_any {W : World} {A : Option Addr} {ws : List Nat} {n c : Nat} (hr : Row W A (intsRow ws)) (hn : ws.length = n) (hn0 : 0 < n) (hn1 : n < 1000) (hw : WidthsOk ws) :
  Calls Tryz.prog 214 #[.slice A n c] W fun e w' => e = .returned (.bool true) ∧ W = w' := by
 have hs := Lib.hid (fun W h => lSize_any (W := W) (A := A) (c := c) h hn hn1 hw)
 have hb := (sum_bound hw).2
 obtain ⟨z, hz⟩ : ∃ z, ws.sum = z := ⟨_, rfl⟩
 rw [hz] at hb hs
 have hz0 : 0 < z := by omega
 have HR := Lib.hid hr
 clear hr hz hb hn
 go_enter Tryz.func214, Tryz.ntmps214
 go_wp2_with (go_at_call 215; refine (hs.out _ HR.out).mono ?_; rintro e w' ⟨rfl, rfl⟩)
 go_ret
 exact ⟨rfl, rfl⟩
end Go.Proofs.YtkjpdfomppjiiaaGreatDoor
/- lend.Write, for whatever widths and numbers that fit. -/
namespace Go.Proofs.YtkjpdfomppjiiaaGreatDoor
open Go.RowKit

theorem le8_snoc : ∀ (k n : Nat), le8 (k + 1) n = le8 k n ++ [UInt8.ofNat (n / 256 ^ k % 256)]
 | 0, n => by simp [le8]
 | k + 1, n => by
  rw [show le8 (k + 1 + 1) n = UInt8.ofNat (n % 256) :: le8 (k + 1) (n / 256) from rfl, le8_snoc k (n / 256), Nat.div_div_eq_div_mul, ← Nat.pow_succ']
  rfl
theorem leW_snoc : ∀ {ws ns : List Nat}, ws.length = ns.length → ∀ w n, leW (ws ++ [w]) (ns ++ [n]) = leW ws ns ++ le8 w n
 | [], [], _, w, n => by simp [leW]
 | v :: ws, m :: ns, h, w, n => by
  simp only [List.cons_append, leW, List.append_assoc]
  rw [leW_snoc (by simpa using h)]
theorem bytesRow_app (a b : List UInt8) : bytesRow (a ++ b) = bytesRow a ++ bytesRow b := by simp [bytesRow]
theorem info_u8C : (Tryz.prog.info? 5).map (fun i => (i.zero, i.size, i.bytes)) = some (some (.int .u8 0), 1, 1) := by kernel_rfl
theorem fits_widths {ws ns : List Nat} (h : FitsW ws ns) : WidthsOk ws := fun w hw => by
 obtain ⟨i, hi, rfl⟩ := List.getElem_of_mem hw
 have h2 : i < ns.length := by rw [← h.1]; exact hi
 have := h.2 i _ _ (List.getElem?_eq_getElem hi) (List.getElem?_eq_getElem h2)
 exact ⟨this.1, this.2.1⟩
set_option maxRecDepth 100000 in
set_option maxHeartbeats 3200000 in
theorem lWrite_any {W : World} {A B : Option Addr} {ws ns : List Nat} {n c c2 : Nat} (hA : Row W A (intsRow ws)) (hB : Row W B (u64sRow ns)) (hn : ws.length = n) (hn0 : 0 < n) (hn1 : n < 1000) (hf : FitsW ws ns) :
  Calls Tryz.prog 163 #[.slice A n c, .slice B n c2] W fun e w' => e = .returned (.tuple #[.string ⟨(leW ws ns).toArray⟩, .bool true]) ∧ Mods [] W w' := by
 obtain ⟨i0, hi0, hz0, hz1, hz2⟩ := info_parts info_u8C
 have hw := fits_widths hf
 have hsb := (sum_bound hw).1
 have hright := Lib.hid (fun W h => lRight_any (W := W) (A := A) (c := c) h hn hn0 hn1 hw)
 have hsize := Lib.hid (fun W h => lSize_any (W := W) (A := A) (c := c) h hn hn1 hw)
 obtain ⟨z, hz⟩ : ∃ z, ws.sum = z := ⟨_, rfl⟩
 rw [hz] at hsize hsb
 rw [hn] at hsb
 have hnn : ns.length = n := by rw [← hf.1]; exact hn
 obtain ⟨wm, hmk, hown0, hg0⟩ := run_make_own (P := Tryz.prog) W W.heap.size 197 5 i0 (.int .u8 0) 1 Tryz.underlying197 hi0 hz0 hz1 .i64 .i64 z (by rw [hz2]; omega) (by unfold maxLen; omega) (Nat.le_refl _)
 have hmm : Mods [] W wm := (Mods.refl _ _).grown hg0 (fun q hq => by cases hq)
 have HO0 := Lib.hid hown0
 have HM0 := Lib.hid hmm
 have HA := Lib.hid hA
 have HB := Lib.hid hB
 have HF := Lib.hid hf
 have HN := Lib.hid (And.intro hn hnn)
 have HZ := Lib.hid hz
 have HW := Lib.hid hw
 clear hA hB hf hn hnn hw hown0 hg0 hmm hz
 go_enter Tryz.func163, Tryz.ntmps163
 go_wp2_with (first | (go_at_call 214; refine (hright.out _ HA.out).mono ?_; rintro e w' ⟨rfl, rfl⟩) | (go_at_call 215; refine (hsize.out _ HA.out).mono ?_; rintro e w' ⟨rfl, rfl⟩))
 go_loopw [6, 7, 8, 9, 25] (fun ov _ _ _ iv wr => ∃ (k m : Nat), k ≤ n ∧ iv = .int .i64 k ∧ (leW (ws.take k) (ns.take k)).length = m ∧ m ≤ z ∧ wr.ownsRow W.heap.size 5 1 ov m (bytesRow (leW (ws.take k) (ns.take k))) ∧ Mods [] W wr) (fun _ _ _ _ iv _ => n - (intOf iv).toNat)
 case atStart => exact ⟨0, 0, Nat.zero_le _, rfl, rfl, Nat.zero_le _, HO0.out, HM0.out⟩
 case round =>
  obtain ⟨k, m, hk, rfl, hml, hmz, hown, hm⟩ := hrel
  have HO := Lib.hid hown
  have HM := Lib.hid hm
  have HL := Lib.hid hml
  by_cases hkl : k < n
  ·obtain ⟨x, hx⟩ : ∃ x, ws[k]? = some x := ⟨_, List.getElem?_eq_getElem (by rw [HN.out.1]; exact hkl)⟩
   obtain ⟨v, hv⟩ : ∃ v, ns[k]? = some v := ⟨_, List.getElem?_eq_getElem (by rw [HN.out.2]; exact hkl)⟩
   obtain ⟨ba, oa, rfl, c0⟩ := (HA.out.keep hm (fun _ _ => by simp)).at (i := k) (u := .int .i64 (x : Nat)) (by unfold intsRow; rw [List.getElem?_map, hx]; rfl)
   obtain ⟨bb, ob, rfl, c1⟩ := (HB.out.keep hm (fun _ _ => by simp)).at (i := k) (u := .int .u64 (v : Nat)) (by unfold u64sRow; rw [List.getElem?_map, hv]; rfl)
   obtain ⟨hx1, hx8, hvx⟩ := HF.out.2 k x v hx hv
   have hv64 : v < 18446744073709551616 := Nat.lt_of_lt_of_le hvx (by
    have := Nat.pow_le_pow_right (show 0 < 256 by omega) hx8
    exact Nat.le_trans this (by decide))
   have ht : leW (ws.take (k + 1)) (ns.take (k + 1)) = leW (ws.take k) (ns.take k) ++ le8 x v := by
    rw [List.take_add_one, List.take_add_one, hx, hv]
    exact leW_snoc (by rw [List.length_take, List.length_take, HN.out.1, HN.out.2]) x v
   have hz1' : m + x ≤ z := by
    have e1 : (leW (ws.take (k + 1)) (ns.take (k + 1))).length = m + x := by rw [ht, List.length_append, le8_len, hml]
    rw [leW_len (by rw [List.length_take, List.length_take, HN.out.1, HN.out.2])] at e1
    rw [← e1, ← HZ.out]
    have h2 := congrArg List.sum (List.take_append_drop (k + 1) ws)
    rw [List.sum_append] at h2
    omega
   have HT := Lib.hid ht
   have HV := Lib.hid hvx
   clear hown hm hml hx hv ht hvx
   go_wp2_with fail
   go_loopw [6, 9, 35] (fun ov nv jv wr => ∃ j : Nat, j ≤ x ∧ jv = .int .i64 j ∧ nv = .int .u64 (v / 256 ^ j : Nat) ∧ wr.ownsRow W.heap.size 5 1 ov (m + j) (bytesRow (leW (ws.take k) (ns.take k)) ++ bytesRow (le8 j v)) ∧ Mods [] W wr) (fun _ _ jv _ => x - (intOf jv).toNat)
   case atStart => exact ⟨0, by omega, rfl, by simp, by simpa [bytesRow, le8] using HO.out, HM.out⟩
   case round =>
    obtain ⟨j, hj, rfl, rfl, hown, hm⟩ := hrel
    by_cases hj8 : j < x
    ·have HO := Lib.hid hown
     have HM := Lib.hid hm
     clear hown
     obtain ⟨y, hy⟩ : ∃ y, v / 256 ^ j = y := ⟨_, rfl⟩
     have hyl : y < 18446744073709551616 := by rw [← hy]; exact Nat.lt_of_le_of_lt (Nat.div_le_self _ _) hv64
     rw [hy]
     go_wp2_with (at_builtin; refine wpList_append_own _ rfl (.tmp 37) (.tmp 40) 197 rfl W.heap.size 5 i0 (.int .u8 0) 1 1 Tryz.underlying197 hi0 hz0 hz1 hz2 rfl (by decide) _ _ _ rfl (HO.out.alloc _) ⟨wr.heap.size, 0, none⟩ 1 1 [.int .u8 ((y : Int) % 256)] rfl rfl (cell_one_new _ _ _) (by simp [Value.oneCell']) (by unfold maxLen; omega) (by omega) (by simp; have := HM.out.size; omega) ?_; intro v1 w1 hown1 hg1 _)
     have hm1 : Mods [] W w1 := (HM.out.alloc _).grown hg1 (fun q hq => .inr (HO.out.lt q hq).1)
     have HO1 := Lib.hid hown1
     clear hown1 hg1
     go_roundw
     case rel =>
      refine ⟨j + 1, by omega, by simp, ?_, ?_, hm1⟩
      ·rw [Nat.pow_succ, ← Nat.div_div_eq_div_mul, hy]; rfl
      ·rw [le8_snoc, bytesRow_app, hy]
       have e1 : (UInt8.ofNat (y % 256)).toNat = y % 256 := by simp
       rw [show bytesRow [UInt8.ofNat (y % 256)] = [.int .u8 ((y : Int) % 256)] by unfold bytesRow; rw [List.map_cons, List.map_nil, e1]; simp, ← List.append_assoc]
       exact HO1.out
     case measure => simp [intOf]; omega
    ·obtain rfl : j = x := by omega
     have hz' : v / 256 ^ j = 0 := Nat.div_eq_of_lt HV.out
     rw [hz']
     have HO := Lib.hid hown
     have HM := Lib.hid hm
     clear hown hm
     go_wp2_with fail
     go_roundw
     case rel => exact ⟨k + 1, m + j, by omega, by simp, by rw [HT.out, List.length_append, le8_len, HL.out], hz1', by rw [HT.out, bytesRow_app]; exact HO.out, HM.out⟩
     case measure => simp [intOf]; omega
  ·obtain rfl : k = n := by omega
   have ht1 : ws.take k = ws := List.take_of_length_le (Nat.le_of_eq HN.out.1)
   have ht2 : ns.take k = ns := List.take_of_length_le (Nat.le_of_eq HN.out.2)
   rw [ht1, ht2] at HO HL
   obtain ⟨L, hL⟩ : ∃ L, leW ws ns = L := ⟨_, rfl⟩
   rw [hL] at HO HL
   have hsum : L.length = z := by rw [← hL, leW_len HF.out.1]; exact HZ.out
   have hm0 : 0 < m := by
    have h1 := (sum_bound HW.out).2
    have h2 := HL.out
    rw [HN.out.1, HZ.out] at h1
    omega
   obtain ⟨g, cap, rfl⟩ : ∃ g cap, u6 = .slice (some ⟨g, 0, none⟩) m cap := by
    rcases HO.out.2 with ⟨_, h0⟩ | ⟨g, cap, cur, rfl, _⟩
    ·omega
    ·exact ⟨g, cap, rfl⟩
   have hcv := run_convert_bytes_back (P := Tryz.prog) wr 197 9 5 ⟨g, 0, none⟩ cap L Tryz.underlying197 Tryz.underlying5 Tryz.underlying9 (fun j hj => HO.out.cells (g := g) rfl j _ (by unfold bytesRow; rw [List.getElem?_map, List.getElem?_eq_getElem hj]; rfl))
   rw [HL.out] at hcv
   have HLL := Lib.hid hL
   clear hown hm hml hL
   go_wp2_with fail
   go_ret2
   rw [HLL.out]
   exact ⟨rfl, HM.out⟩
end Go.Proofs.YtkjpdfomppjiiaaGreatDoor
/- A map whose keys are of one plain type, told as a function from keys to elements, and how many entries it has. No program is named here. -/
namespace Go.Proofs.YtkjpdfomppjiiaaGreatDoor
open Go.RowKit Go.MapKept

def MapK {κ : Type} (kv : κ → Value) (w : World) (b : Nat) (F : κ → Option Value) (n : Nat) : Prop :=
 ∃ es clock, w.heap[b]? = some (.map es clock) ∧ Stamped es clock ∧ (∀ x ∈ es.toList, ∃ a, x.key = kv a) ∧ (∀ a v, F a = some v ↔ ∃ x ∈ es.toList, x.key = kv a ∧ x.val = v) ∧ es.size = n

section
variable {κ : Type} {kv : κ → Value} {d : TypeDesc} {P : Program} {w : World} {b : Nat} {F : κ → Option Value} {n : Nat}

theorem MapK.keep {w1 : World} (h : MapK kv w b F n) {L : List Nat} (hm : Mods L w w1) (hn : b ∉ L) : MapK kv w1 b F n := by
 obtain ⟨es, clock, h1, h2⟩ := h
 exact ⟨es, clock, hm.keep h1 hn, h2⟩
theorem MapK.drewN (h : MapK kv w b F n) (q : Nat) : MapK kv (w.drewN q) b F n := h
theorem MapK.lt (h : MapK kv w b F n) : b < w.heap.size := by obtain ⟨es, clock, h1, _⟩ := h; exact lt_of_block h1
theorem MapK.made (w : World) : MapK kv (w.alloc (.map #[] 0)) w.heap.size (fun _ => none) 0 :=
 ⟨#[], 0, (MapKept.heap_alloc w _).1, stamped_empty 0, by simp, by simp, rfl⟩

theorem MapK.lookup {T K E : TypeId} {z : Value} (h : MapK kv w b F n) (hk : ∀ a, IsKey d (kv a)) (hT : P.underlying T = some (.map K E)) (hK : P.underlying K = some d) (hz : (zeroValue E).run P w = .ok z w) (a : κ) (c : Bool) :
  (Instr.lookup T (.map (some b)) (kv a) c).run P w = .ok (if c then .tuple #[(F a).getD z, .bool (F a).isSome] else (F a).getD z) w := by
 obtain ⟨es, clock, h1, h2, h3, h4, h5⟩ := h
 have hkeys : ∀ x ∈ es.toList, IsKey d x.key := fun x hx => by obtain ⟨a, e⟩ := h3 x hx; rw [e]; exact hk a
 rcases findNow_spec (hk a) es.toList 0 hkeys with ⟨hf, hno⟩ | ⟨j, e, hf, hj, he⟩
 ·have hFa : F a = none := by
   cases hF : F a with
   | none => rfl
   | some v =>
    obtain ⟨x, hx, hxk, _⟩ := (h4 a v).1 hF
    exact absurd hxk (hno x hx)
  cases c <;> simp [Instr.lookup, run_underlying hT, Result.andThen, MapKept.run_getObj_map h1, run_checkKey hK (hk a), run_findKey hK hf, hz, hFa]
 ·have hFa : F a = some e.val := (h4 a e.val).2 ⟨e, List.mem_of_getElem? hj, he, rfl⟩
  cases c <;> simp [Instr.lookup, run_underlying hT, Result.andThen, MapKept.run_getObj_map h1, run_checkKey hK (hk a), run_findKey hK hf, hFa]

theorem MapK.len {T K E : TypeId} (h : MapK kv w b F n) (hT : P.underlying T = some (.map K E)) (ty : TypeId) : (Builtin.len_ #[T] ty #[.map (some b)]).run P w = .ok (.int .i64 n) w := by
 obtain ⟨es, clock, h1, h2, h3, h4, h5⟩ := h
 simp [Builtin.len_, run_underlying hT, Result.andThen, MapKept.run_getObj_map h1, goInt, h5]

def putF [DecidableEq κ] (F : κ → Option Value) (a : κ) (v : Value) : κ → Option Value := fun x => if x = a then some v else F x
def delF [DecidableEq κ] (F : κ → Option Value) (a : κ) : κ → Option Value := fun x => if x = a then none else F x

theorem MapK.update [DecidableEq κ] {T K E : TypeId} (h : MapK kv w b F n) (hk : ∀ a, IsKey d (kv a)) (hinj : ∀ a c, kv a = kv c → a = c) (hT : P.underlying T = some (.map K E)) (hK : P.underlying K = some d) (a : κ) (v : Value) :
  ∃ w1, (Instr.mapUpdate T (.map (some b)) (kv a) v).run P w = .ok () w1 ∧ MapK kv w1 b (putF F a v) (if (F a).isSome then n else n + 1) ∧ Mods [b] w w1 ∧ w1.heap.size = w.heap.size := by
 obtain ⟨es, clock, h1, h2, h3, h4, h5⟩ := h
 have hkeys : ∀ x ∈ es.toList, IsKey d x.key := fun x hx => by obtain ⟨a, e⟩ := h3 x hx; rw [e]; exact hk a
 have hmods : ∀ o, Mods [b] w { w with heap := w.heap.setIfInBounds b o } := fun o => ⟨rfl, rfl, rfl, by simp, fun k _ hn => (heap_set h1).2 k (by simpa using hn)⟩
 rcases findNow_spec (hk a) es.toList 0 hkeys with ⟨hf, hno⟩ | ⟨j, e, hf, hj, he⟩
 ·have hFa : F a = none := by
   cases hF : F a with
   | none => rfl
   | some v =>
    obtain ⟨x, hx, hxk, _⟩ := (h4 a v).1 hF
    exact absurd hxk (hno x hx)
  refine ⟨{ w with heap := w.heap.setIfInBounds b (.map (es.push { key := kv a, val := v, born := clock }) (clock + 1)) }, ?_, ⟨_, _, (heap_set h1).1, stamped_push h2 hno, ?_, ?_, ?_⟩, hmods _, by simp⟩
  ·simp [Instr.mapUpdate, run_underlying hT, MapKept.run_getObj_map h1, run_checkKey hK (hk a), run_findKey hK hf, run_setObj_map _ h1, Result.andThen]
  ·intro x hx
   simp only [Array.toList_push, List.mem_append, List.mem_singleton] at hx
   rcases hx with hx | rfl
   ·exact h3 x hx
   ·exact ⟨a, rfl⟩
  ·intro c u
   simp only [Array.toList_push, List.mem_append, List.mem_singleton, putF]
   by_cases hc : c = a
   ·subst hc
    rw [if_pos rfl]
    constructor
    ·intro hu; injection hu with hu; exact ⟨_, .inr rfl, rfl, hu⟩
    ·rintro ⟨x, hx | rfl, hxk, hxv⟩
     ·exact absurd hxk (hno x hx)
     ·exact congrArg some hxv
   ·rw [if_neg hc, h4 c u]
    constructor
    ·rintro ⟨x, hx, hxk, hxv⟩; exact ⟨x, .inl hx, hxk, hxv⟩
    ·rintro ⟨x, hx | rfl, hxk, hxv⟩
     ·exact ⟨x, hx, hxk, hxv⟩
     ·exact absurd (hinj _ _ hxk).symm hc
  ·rw [hFa]; simp [h5]
 ·have hj' : es[j]? = some e := by simpa using hj
  have hFa : F a = some e.val := (h4 a e.val).2 ⟨e, List.mem_of_getElem? hj, he, rfl⟩
  have hkey : ∀ e', es[j]? = some e' → ({ e' with key := kv a, val := v } : MapEntry).key = e'.key := fun e' he' => by rw [hj'] at he'; cases he'; exact he.symm
  have hst := stamped_modify h2 j (fun e' => { e' with key := kv a, val := v }) (fun _ _ => rfl) (fun e' _ he' => hkey e' he')
  have hjlt : j < es.size := by
   have := (Array.getElem?_eq_some_iff.1 hj').1; exact this
  have hmem : ∀ x : MapEntry, x ∈ (es.modify j fun e' => { e' with key := kv a, val := v }).toList ↔ (x = { e with key := kv a, val := v } ∨ (x ∈ es.toList ∧ x.key ≠ kv a)) := by
   intro x
   have hget : ∀ i, (es.modify j fun e' => { e' with key := kv a, val := v }).toList[i]? = if j = i then (es.toList[i]?).map (fun e' => { e' with key := kv a, val := v }) else es.toList[i]? := by
    intro i
    rw [Array.getElem?_toList, Array.getElem?_modify, Array.getElem?_toList]
   constructor
   ·intro hx
    obtain ⟨i, hi⟩ := List.getElem?_of_mem hx
    rw [hget] at hi
    by_cases hij : j = i
    ·subst hij
     rw [if_pos rfl, hj] at hi
     injection hi with hi
     exact .inl hi.symm
    ·rw [if_neg hij] at hi
     refine .inr ⟨List.mem_of_getElem? hi, fun hxk => hij ?_⟩
     have hn := h2.2.2
     have e1 : (es.toList.map (·.key))[j]? = some (kv a) := by rw [List.getElem?_map, hj]; exact congrArg some he
     have e2 : (es.toList.map (·.key))[i]? = some (kv a) := by rw [List.getElem?_map, hi]; exact congrArg some hxk
     exact (List.getElem?_inj (List.getElem?_eq_some_iff.1 e1).1 hn).1 (e1.trans e2.symm)
   ·rintro (rfl | ⟨hx, hxk⟩)
    ·apply List.mem_of_getElem? (i := j)
     rw [hget, if_pos rfl, hj]; rfl
    ·obtain ⟨i, hi⟩ := List.getElem?_of_mem hx
     apply List.mem_of_getElem? (i := i)
     rw [hget, if_neg, hi]
     rintro rfl
     rw [hj] at hi
     injection hi with hi
     subst hi
     exact hxk he
  refine ⟨{ w with heap := w.heap.setIfInBounds b (.map (es.modify j fun e' => { e' with key := kv a, val := v }) clock) }, ?_, ⟨_, _, (heap_set h1).1, hst, ?_, ?_, ?_⟩, hmods _, by simp⟩
  ·simp [Instr.mapUpdate, run_underlying hT, MapKept.run_getObj_map h1, run_checkKey hK (hk a), run_findKey hK hf, hj', he, run_keyThatStays (hk a), run_setObj_map _ h1, Result.andThen]
  ·intro x hx
   rcases (hmem x).1 hx with rfl | ⟨hx, _⟩
   ·exact ⟨a, rfl⟩
   ·exact h3 x hx
  ·intro c u
   unfold putF
   by_cases hc : c = a
   ·subst hc
    rw [if_pos rfl]
    constructor
    ·intro hu; injection hu with hu; exact ⟨_, (hmem _).2 (.inl rfl), rfl, hu⟩
    ·rintro ⟨x, hx, hxk, hxv⟩
     rcases (hmem x).1 hx with rfl | ⟨_, hne⟩
     ·exact congrArg some hxv
     ·exact absurd hxk hne
   ·rw [if_neg hc, h4 c u]
    constructor
    ·rintro ⟨x, hx, hxk, hxv⟩
     exact ⟨x, (hmem x).2 (.inr ⟨hx, fun e => hc (hinj _ _ (hxk.symm.trans e))⟩), hxk, hxv⟩
    ·rintro ⟨x, hx, hxk, hxv⟩
     rcases (hmem x).1 hx with rfl | ⟨hx, _⟩
     ·exact absurd (hinj _ _ hxk).symm hc
     ·exact ⟨x, hx, hxk, hxv⟩
  ·rw [hFa]; simp [h5]

end
end Go.Proofs.YtkjpdfomppjiiaaGreatDoor
/- The plain law of the model: keys and values by rising keys, what an update makes of them. No program is named here. -/
namespace Go.Proofs.YtkjpdfomppjiiaaGreatDoor

abbrev Ents := List (ByteArray × ByteArray)
structure Upd where
 kind : Nat
 key : ByteArray
 val : ByteArray
 delta : Nat
def leNum : List UInt8 → Nat
 | [] => 0
 | b :: l => b.toNat + 256 * leNum l
def mayU (old : Option ByteArray) (u : Upd) : Prop := u.kind = 3 → ∀ v, old = some v → v.size = 8
instance (old : Option ByteArray) (u : Upd) : Decidable (mayU old u) := by
 unfold mayU
 cases old with
 | none => exact .isTrue (by simp)
 | some v => exact decidable_of_iff (u.kind = 3 → v.size = 8) (by simp)
theorem leNum_lt : ∀ (l : List UInt8), leNum l < 256 ^ l.length
 | [] => by simp [leNum]
 | b :: l => by
  have h1 := leNum_lt l
  have h2 := b.toNat_lt
  unfold leNum
  rw [List.length_cons, Nat.pow_succ]
  omega
theorem leNum_snoc : ∀ (l : List UInt8) (b : UInt8), leNum (l ++ [b]) = leNum l + b.toNat * 256 ^ l.length
 | [], b => by simp [leNum]
 | c :: l, b => by
  show c.toNat + 256 * leNum (l ++ [b]) = c.toNat + 256 * leNum l + b.toNat * 256 ^ (l.length + 1)
  rw [leNum_snoc l b, Nat.pow_succ, Nat.mul_add]
  have : 256 * (b.toNat * 256 ^ l.length) = b.toNat * (256 ^ l.length * 256) := by
   rw [Nat.mul_comm (256 ^ l.length) 256, Nat.mul_left_comm]
  omega
theorem le_step (l : List UInt8) (b : UInt8) (j : Nat) (hj : j < 8) (hl : l.length = j) :
  bits .or .u64 (leNum l : Nat) (IntKind.u64.wrap (IntKind.u64.wrap (b.toNat : Int) * 2 ^ (8 * j))) = ((leNum (l ++ [b]) : Nat) : Int) := by
 have h1 := leNum_lt l
 have h2 := b.toNat_lt
 rw [hl] at h1
 have hp : (256 : Nat) ^ j = 2 ^ (8 * j) := by rw [Nat.pow_mul]
 rw [hp] at h1
 have hj2 : 2 ^ (8 * j) ≤ 2 ^ 56 := Nat.pow_le_pow_right (by omega) (by omega)
 have hlt : b.toNat * 2 ^ (8 * j) < 18446744073709551616 := by
  have : b.toNat * 2 ^ (8 * j) ≤ 255 * 2 ^ 56 := Nat.mul_le_mul (by omega) hj2
  omega
 have e1 : IntKind.u64.wrap (b.toNat : Int) = (b.toNat : Int) := by rw [IntKind.wrap_u64]; omega
 have e2 : ((b.toNat : Int) * 2 ^ (8 * j)) = ((b.toNat * 2 ^ (8 * j) : Nat) : Int) := by push_cast; rfl
 rw [e1, e2]
 have e3 : IntKind.u64.wrap ((b.toNat * 2 ^ (8 * j) : Nat) : Int) = ((b.toNat * 2 ^ (8 * j) : Nat) : Int) := by rw [IntKind.wrap_u64]; omega
 rw [e3, bits_or_u64_nat _ _ (by omega) hlt, leNum_snoc, hl, hp]
 congr 1
 rw [Nat.or_comm, Nat.mul_comm b.toNat, ← Nat.two_pow_add_eq_or_of_lt h1]
 omega
theorem take_byte {s : ByteArray} {j : Nat} (hj : j < s.size) : s.toList.take (j + 1) = s.toList.take j ++ [s[j]] := by
 have h1 : s.toList = s.data.toList := Lib.toList_data s
 have h2 : j < s.data.toList.length := by rw [Array.length_toList]; exact hj
 rw [h1, List.take_succ_eq_append_getElem h2]
 rfl
end Go.Proofs.YtkjpdfomppjiiaaGreatDoor
/- lend.Read, for whatever widths. -/
namespace Go.Proofs.YtkjpdfomppjiiaaGreatDoor
open Go.RowKit

theorem un8_le : ∀ l : List UInt8, un8 l = leNum l
 | [] => rfl
 | b :: l => by simp [un8, leNum, un8_le l]
theorem unW_snoc : ∀ (ws : List Nat) (w : Nat) (s : List UInt8), unW (ws ++ [w]) s = unW ws s ++ [un8 ((s.drop ws.sum).take w)]
 | [], w, s => by simp [unW]
 | v :: ws, w, s => by
  simp only [List.cons_append, unW, List.sum_cons]
  rw [unW_snoc ws w, List.drop_drop]
theorem extract_drop (r : ByteArray) (x : Nat) : (r.extract x r.size).toList = r.toList.drop x := by
 rw [Lib.toList_data, Lib.toList_data]
 rw [ByteArray.data_extract, Array.toList_extract]
 rw [List.extract_eq_take_drop, List.take_of_length_le]
 rw [List.length_drop, Array.length_toList]
 exact Nat.le_refl _
theorem owns_keepL {w w1 : World} {base n s : Nat} {e : TypeId} {v : Value} {xs : List Value} (h : w.ownsRow base e s v n xs) (hm : Mods [] w w1) : w1.ownsRow base e s v n xs := by
 refine ⟨h.1, ?_⟩
 rcases h.2 with h | ⟨g, cap, cur, h1, h2, h3, h4⟩
 ·exact .inl h
 ·exact .inr ⟨g, cap, cur, h1, h2, hm.keep h3 (by simp), h4⟩
theorem info_u64C : (Tryz.prog.info? 42).map (fun i => (i.zero, i.size, i.bytes)) = some (some (.int .u64 0), 1, 8) := by kernel_rfl
set_option maxHeartbeats 1600000 in
theorem lRead_shortC {W : World} {A : Option Addr} {ws : List Nat} {n c : Nat} (hA : Row W A (intsRow ws)) (hn : ws.length = n) (hn0 : 0 < n) (hn1 : n < 1000) (hw : WidthsOk ws) (s : ByteArray) (hs : s.size < ws.sum) :
  Calls Tryz.prog 190 #[.slice A n c, .string s] W fun e w' => e = .returned (.tuple #[.slice none 0 0, .string ⟨#[]⟩, .bool false]) ∧ W = w' := by
 have hright := Lib.hid (fun W h => lRight_any (W := W) (A := A) (c := c) h hn hn0 hn1 hw)
 have hsize := Lib.hid (fun W h => lSize_any (W := W) (A := A) (c := c) h hn hn1 hw)
 obtain ⟨z, hz⟩ : ∃ z, ws.sum = z := ⟨_, rfl⟩
 rw [hz] at hsize hs
 have HA := Lib.hid hA
 clear hA hz hn hw
 go_enter Tryz.func190, Tryz.ntmps190
 go_wp2_with (first | (go_at_call 214; refine (hright.out _ HA.out).mono ?_; rintro e w' ⟨rfl, rfl⟩) | (go_at_call 215; refine (hsize.out _ HA.out).mono ?_; rintro e w' ⟨rfl, rfl⟩))
 go_ret3
 exact ⟨rfl, rfl⟩
set_option maxRecDepth 100000 in
set_option maxHeartbeats 3200000 in
theorem lRead_anyC {W : World} {A : Option Addr} {ws : List Nat} {n c : Nat} (hA : Row W A (intsRow ws)) (hn : ws.length = n) (hn0 : 0 < n) (hn1 : n < 1000) (hw : WidthsOk ws) (s : ByteArray) (hs : ws.sum ≤ s.size) (hm : s.size ≤ 1000000) :
  Calls Tryz.prog 190 #[.slice A n c, .string s] W fun e w' => ∃ u rest, e = .returned (.tuple #[u, .string rest, .bool true]) ∧ w'.ownsRow W.heap.size 42 1 u n (u64sRow (unW ws s.toList)) ∧ Mods [] W w' ∧ rest.toList = s.toList.drop ws.sum := by
 obtain ⟨i0, hi0, hz0, hz1, hz2⟩ := info_parts info_u64C
 have hright := Lib.hid (fun W h => lRight_any (W := W) (A := A) (c := c) h hn hn0 hn1 hw)
 have hsize := Lib.hid (fun W h => lSize_any (W := W) (A := A) (c := c) h hn hn1 hw)
 obtain ⟨z, hz⟩ : ∃ z, ws.sum = z := ⟨_, rfl⟩
 rw [hz] at hsize hs
 have hlt : ¬ s.size < z := by omega
 have hlt2 : decide (s.size < z) = false := by simp; omega
 have HA := Lib.hid hA
 have HN := Lib.hid hn
 have HW := Lib.hid hw
 have HZ := Lib.hid hz
 have hsl : s.toList.length = s.size := by rw [Lib.toList_data]; exact Array.length_toList
 have HSL := Lib.hid hsl
 clear hA hz hn hw hsl
 go_enter Tryz.func190, Tryz.ntmps190
 go_wp2_with (first | (go_at_call 214; refine (hright.out _ HA.out).mono ?_; rintro e w' ⟨rfl, rfl⟩) | (go_at_call 215; refine (hsize.out _ HA.out).mono ?_; rintro e w' ⟨rfl, rfl⟩))
 go_loopw [1, 7, 9, 10, 11, 24] (fun sv ov _ _ _ iv wr => ∃ (k : Nat) (r : ByteArray), k ≤ n ∧ iv = .int .i64 k ∧ sv = .string r ∧ r.toList = s.toList.drop (ws.take k).sum ∧ wr.ownsRow W.heap.size 42 1 ov k (u64sRow (unW (ws.take k) s.toList)) ∧ Mods [] W wr) (fun _ _ _ _ _ iv _ => n - (intOf iv).toNat)
 case atStart => exact ⟨0, s, Nat.zero_le _, rfl, rfl, by simp, by simpa [unW, u64sRow] using World.ownsRow_nil _ _ _ _, Mods.refl _ _⟩
 case round =>
  obtain ⟨k, r, hk, rfl, rfl, hr, hown, hm⟩ := hrel
  have HO := Lib.hid hown
  have HM := Lib.hid hm
  by_cases hkl : k < n
  ·obtain ⟨x, hx⟩ : ∃ x, ws[k]? = some x := ⟨_, List.getElem?_eq_getElem (by rw [HN.out]; exact hkl)⟩
   obtain ⟨ba, oa, rfl, c0⟩ := (HA.out.keep hm (fun _ _ => by simp)).at (i := k) (u := .int .i64 (x : Nat)) (by unfold intsRow; rw [List.getElem?_map, hx]; rfl)
   obtain ⟨hx1, hx8⟩ := HW.out x (List.mem_of_getElem? hx)
   have ht : ws.take (k + 1) = ws.take k ++ [x] := by rw [List.take_add_one, hx]; rfl
   have hrl : r.toList.length = r.size := by rw [Lib.toList_data]; exact Array.length_toList
   have hxr : x ≤ r.size := by
    have h2 := congrArg List.sum (List.take_append_drop (k + 1) ws)
    rw [List.sum_append, ht, List.sum_append, List.sum_singleton, HZ.out] at h2
    rw [← hrl, hr, List.length_drop, HSL.out]
    omega
   have hrm : r.size ≤ 1000000 := by rw [← hrl, hr, List.length_drop, HSL.out]; omega
   have HR := Lib.hid (And.intro hr hrl)
   have HT := Lib.hid ht
   have hsz := hm.size
   clear hown hm hx ht hr hrl
   go_wp2_with fail
   go_loopw [10, 11, 29] (fun nv _ jv w2 => ∃ j : Nat, j ≤ x ∧ jv = .int .i64 j ∧ nv = .int .u64 (leNum (r.toList.take j) : Nat) ∧ wr = w2) (fun _ _ jv _ => x - (intOf jv).toNat)
   case atStart => exact ⟨0, by omega, rfl, rfl, rfl⟩
   case round =>
    obtain ⟨j, hj, rfl, rfl, rfl⟩ := hrel
    by_cases hj8 : j < x
    ·have hjr : j < r.size := by omega
     go_wp2_with fail
     go_roundw
     case rel =>
      refine ⟨j + 1, by omega, by simp, ?_, by simp⟩
      rw [take_byte hjr]
      exact congrArg _ (le_step _ _ j (by omega) (by rw [List.length_take, HR.out.2]; omega))
     case measure => simp [intOf]; omega
    ·obtain rfl : j = x := by omega
     go_wp2_with fail
     go_region_law (refine step_append_lies _ (by rfl) (.tmp 42) (.tmp 44) 278 (by rfl) W.heap.size 42 i0 (.int .u64 0) 1 8 Tryz.underlying278 hi0 hz0 hz1 hz2 (by rfl) (by decide) _ _ _ (by rfl) (owns_keepL HO.out (by repeat (first | exact Mods.refl _ _ | apply Mods.drew | apply Mods.drewN | apply Mods.alloc))) ⟨wr.heap.size, 0, none⟩ 1 1 [.int .u64 (leNum (r.toList.take j) : Nat)] (by rfl) (by rfl) (cell_one_new _ _ _) (by simp [Value.oneCell']) (by omega) (by unfold maxLen; omega) (by omega) (by simp; omega) (wr.heap.size + 1) (by simp) ?_; intro g cap w1 hown hgrow hat hlt)
     have hm1 : Mods [] W w1 := Mods.grown (by repeat (first | exact HM.out | apply Mods.drew | apply Mods.drewN | apply Mods.alloc)) hgrow (fun q hq => .inr (HO.out.lt q hq).1)
     have HO1 := Lib.hid hown
     clear hown hgrow
     go_wp2_with fail
     go_roundw
     case rel =>
      refine ⟨k + 1, _, by omega, by simp, rfl, ?_, ?_, hm1⟩
      ·rw [HT.out, List.sum_append, List.sum_singleton, ← List.drop_drop, ← HR.out.1]
       exact extract_drop r j
      ·rw [HT.out, unW_snoc, ← HR.out.1, un8_le]
       unfold u64sRow
       rw [List.map_append]
       exact HO1.out
     case measure => simp [intOf]; omega
  ·obtain rfl : k = n := by omega
   have ht1 : ws.take k = ws := List.take_of_length_le (Nat.le_of_eq HN.out)
   rw [ht1] at HO hr
   have HR := Lib.hid hr
   clear hown hm hr
   go_wp2_with fail
   go_ret3
   exact ⟨_, r, rfl, HO.out, HM.out, HR.out⟩
end Go.Proofs.YtkjpdfomppjiiaaGreatDoor
/- sum: the check of what has a check, and more behind it. -/
namespace Go.Proofs.YtkjpdfomppjiiaaGreatDoor
open Go.RowKit

def sumRow : List Value := (List.range 256).map fun i => Value.int .u32 (crcTab i : Nat)
theorem sumRow_at {i : Nat} (h : i < 256) : sumRow[i]? = some (.int .u32 (crcTab i : Nat)) := by
 unfold sumRow
 rw [List.getElem?_map, List.getElem?_range h]; rfl
theorem xor_lt8 {a b : Nat} (ha : a < 256) (hb : b < 256) : a ^^^ b < 256 := by
 have := Nat.xor_lt_two_pow (n := 8) (show a < 2 ^ 8 by omega) (show b < 2 ^ 8 by omega)
 omega
theorem xor_lt32 {a b : Nat} (ha : a < 4294967296) (hb : b < 4294967296) : a ^^^ b < 4294967296 := by
 have := Nat.xor_lt_two_pow (n := 32) (show a < 2 ^ 32 by omega) (show b < 2 ^ 32 by omega)
 omega
theorem crcStep_lt {r x : Nat} (hr : r < 4294967296) (hx : x < 256) : crcStep r x < 4294967296 :=
 xor_lt32 (by omega) (crcTab_lt _ (xor_lt8 (by omega) hx))
theorem crcRun_lt : ∀ (l : List UInt8) (r : Nat), r < 4294967296 → crcRun r l < 4294967296
 | [], _, h => h
 | b :: l, _, h => crcRun_lt l _ (crcStep_lt h b.toNat_lt)
theorem crcRun_snoc (r : Nat) (l : List UInt8) (b : UInt8) : crcRun r (l ++ [b]) = crcStep (crcRun r l) b.toNat := by
 unfold crcRun; rw [List.foldl_append]; rfl
theorem not32 (a : Nat) (h : a < 4294967296) : bits .xor .u32 IntKind.u32.max (a : Int) = ((4294967295 - a : Nat) : Int) := by
 have h1 := u32_xor_nat 4294967295 a (by omega) h
 have h2 : 4294967295 ^^^ a = 4294967295 - a := by
  have h := congrArg BitVec.toNat (show BitVec.allOnes 32 ^^^ BitVec.ofNat 32 a = ~~~ BitVec.ofNat 32 a by first | exact BitVec.allOnes_xor | (apply BitVec.eq_of_getLsbD_eq; intro i hi; rw [BitVec.getLsbD_xor, BitVec.getLsbD_not, BitVec.getLsbD_allOnes]; simp [hi]))
  rw [BitVec.toNat_xor, BitVec.toNat_not, BitVec.toNat_allOnes, BitVec.toNat_ofNat, Nat.mod_eq_of_lt (by omega)] at h
  exact h
 rw [← h2]; exact h1
set_option maxRecDepth 100000 in
set_option maxHeartbeats 1600000 in
theorem sumOn_any {W : World} {b : Nat} (hT : Blk W b 218 sumRow) (c : Nat) (hc : c < 4294967296) (s : ByteArray) (hs : s.size ≤ 1000000) :
  Calls Tryz.prog 213 #[.pointer (some ⟨b, 0, none⟩), .int .u32 (c : Nat), .string s] W fun e w' => e = .returned (.int .u32 (crcOn c s.toList : Nat)) ∧ Mods [] W w' := by
 have HT := Lib.hid hT
 have hn1 := not32 c hc
 obtain ⟨n, hn⟩ : ∃ n, s.size = n := ⟨_, rfl⟩
 have hsl : s.toList.length = n := by rw [Lib.toList_data, ← hn]; exact Array.length_toList
 have HL := Lib.hid hsl
 obtain ⟨c', hc'⟩ : ∃ c', 4294967295 - c = c' := ⟨_, rfl⟩
 have hc1 : c' < 4294967296 := by omega
 rw [hc'] at hn1
 unfold crcOn
 rw [hc']
 clear hT hsl hc'
 go_enter Tryz.func213, Tryz.ntmps213
 go_wp2_with fail
 go_loopw [7, 8, 15] (fun rv _ iv wr => ∃ j : Nat, j ≤ n ∧ iv = .int .i64 j ∧ rv = .int .u32 (crcRun c' (s.toList.take j) : Nat) ∧ Mods [] W wr) (fun _ _ iv _ => n - (intOf iv).toNat)
 case atStart => exact ⟨0, Nat.zero_le _, rfl, by simp [crcRun], Mods.refl _ _⟩
 case round =>
  obtain ⟨j, hj, rfl, rfl, hm⟩ := hrel
  obtain ⟨r, hr⟩ : ∃ r, crcRun c' (s.toList.take j) = r := ⟨_, rfl⟩
  have hrl : r < 4294967296 := by rw [← hr]; exact crcRun_lt _ _ hc1
  by_cases hjl : j < n
  ·have hjs : j < s.size := by omega
   have hxl := s[j].toNat_lt
   obtain ⟨x, hx⟩ : ∃ x, s[j].toNat = x := ⟨_, rfl⟩
   rw [hx] at hxl
   obtain ⟨q, hq⟩ : ∃ q, (r % 256) ^^^ x = q := ⟨_, rfl⟩
   have hql : q < 256 := by rw [← hq]; exact xor_lt8 (by omega) hxl
   have e1 : bits .xor .u8 ((r : Int) % 256) (x : Int) = (q : Int) := by
    have h := u8_xor_nat (r % 256) x (by omega) hxl
    rw [hq] at h; exact h
   have ht := (HT.out.keep hm (by simp)).cell (sumRow_at hql)
   have hnext : Hid (crcRun c' (s.toList.take (j + 1)) = (r / 256) ^^^ crcTab q) := by
    rw [take_byte hjs, crcRun_snoc, hr, hx]
    unfold crcStep; rw [hq]; exact rfl
   obtain ⟨tq, htq⟩ : ∃ tq, crcTab q = tq := ⟨_, rfl⟩
   have htl : tq < 4294967296 := by rw [← htq]; exact crcTab_lt q hql
   rw [htq] at ht hnext
   have e2 := u32_xor_nat (r / 256) tq (by omega) htl
   obtain ⟨r2, hr2⟩ : ∃ r2, (r / 256) ^^^ tq = r2 := ⟨_, rfl⟩
   rw [hr2] at e2 hnext
   have e3 : bits .xor .u32 ((r : Int) / 256) (tq : Int) = (r2 : Int) := e2
   have HM := Lib.hid hm
   rw [hr]
   clear hr hq htq hr2 e2 hm
   go_wp2_with fail
   go_quiet (fail)
   go_wp2_with fail
   go_roundw
   case rel => exact ⟨j + 1, by omega, by simp, by rw [hnext.out], HM.out.drewN _⟩
   case measure => simp [intOf]; omega
  ·obtain rfl : j = n := by omega
   rw [List.take_of_length_le (Nat.le_of_eq HL.out)] at hr
   have hn2 := not32 r hrl
   have HR := Lib.hid hr
   have HM := Lib.hid hm
   rw [List.take_of_length_le (Nat.le_of_eq HL.out), hr]
   clear hr hm
   go_wp2_with fail
   go_ret
   rw [HR.out]
   exact ⟨by simp, HM.out⟩
end Go.Proofs.YtkjpdfomppjiiaaGreatDoor
/- sum.Of: the check of some texts, one behind the other. -/
namespace Go.Proofs.YtkjpdfomppjiiaaGreatDoor
open Go.RowKit

def crcOf (l : List ByteArray) : Nat := l.foldl (fun c s => crcOn c s.toList) 0
theorem crcOn_lt (c : Nat) (l : List UInt8) : crcOn c l < 4294967296 := by unfold crcOn; omega
theorem crcOf_lt (l : List ByteArray) : crcOf l < 4294967296 := by
 have h : ∀ (l : List ByteArray) (c : Nat), c < 4294967296 → l.foldl (fun c s => crcOn c s.toList) c < 4294967296 := by
  intro l
  induction l with
  | nil => exact fun c h => h
  | cons s l ih => exact fun c _ => ih _ (crcOn_lt c s.toList)
 exact h l 0 (by omega)
set_option maxRecDepth 100000 in
set_option maxHeartbeats 1600000 in
theorem sumOf_any {W : World} {b : Nat} (hT : Blk W b 218 sumRow) {A : Option Addr} {l : List ByteArray} {n c : Nat} (hA : Row W A (l.map Value.string)) (hn : l.length = n) (hn1 : n < 1000000) (hl : ∀ s ∈ l, s.size ≤ 1000000) :
  Calls Tryz.prog 161 #[.pointer (some ⟨b, 0, none⟩), .slice A n c] W fun e w' => e = .returned (.int .u32 (crcOf l : Nat)) ∧ Mods [] W w' := by
 have HT := Lib.hid hT
 have HA := Lib.hid hA
 have HN := Lib.hid hn
 have HL := Lib.hid hl
 clear hT hA hn hl
 go_enter Tryz.func161, Tryz.ntmps161
 go_wp2_with fail
 go_loopw [5, 7, 10] (fun rv _ iv wr => ∃ j : Nat, j ≤ n ∧ iv = .int .i64 j ∧ rv = .int .u32 (crcOf (l.take j) : Nat) ∧ Mods [] W wr) (fun _ _ iv _ => n - (intOf iv).toNat)
 case atStart => exact ⟨0, Nat.zero_le _, rfl, rfl, Mods.refl _ _⟩
 case round =>
  obtain ⟨j, hj, rfl, rfl, hm⟩ := hrel
  by_cases hjl : j < n
  ·obtain ⟨s, hs⟩ : ∃ s, l[j]? = some s := ⟨_, List.getElem?_eq_getElem (by rw [HN.out]; exact hjl)⟩
   obtain ⟨ba, oa, rfl, c0⟩ := (HA.out.keep hm (fun _ _ => by simp)).at (i := j) (u := .string s) (by rw [List.getElem?_map, hs]; rfl)
   have hss := HL.out s (List.mem_of_getElem? hs)
   have hnext : Hid (crcOf (l.take (j + 1)) = crcOn (crcOf (l.take j)) s.toList) := by
    rw [List.take_add_one, hs]
    unfold crcOf
    rw [List.foldl_append]
    exact rfl
   have hlt := crcOf_lt (l.take j)
   obtain ⟨r, hr⟩ : ∃ r, crcOf (l.take j) = r := ⟨_, rfl⟩
   rw [hr] at hlt hnext ⊢
   have HM := Lib.hid hm
   clear hm hs hr
   go_wp2_with fail
   refine (sumOn_any (HT.out.keep HM.out (by simp)) r hlt s hss).mono ?_
   rintro x w2 ⟨rfl, hm2⟩
   have HM2 := Lib.hid (HM.out.trans hm2 (by simp))
   clear hm2
   go_wp2_with fail
   go_roundw
   case rel => exact ⟨j + 1, by omega, by simp, by rw [hnext.out], HM2.out⟩
   case measure => simp [intOf]; omega
  ·obtain rfl : j = n := by omega
   have HM := Lib.hid hm
   rw [List.take_of_length_le (Nat.le_of_eq HN.out)]
   clear hm
   go_wp2_with fail
   go_ret
   exact ⟨rfl, HM.out⟩
end Go.Proofs.YtkjpdfomppjiiaaGreatDoor
/- sum.Make: the table. -/
namespace Go.Proofs.YtkjpdfomppjiiaaGreatDoor
open Go.RowKit

def tabRow (k : Nat) : List Value := (List.range 256).map fun i => Value.int .u32 ((if i < k then crcTab i else 0 : Nat) : Nat)
theorem tabRow_full : tabRow 256 = sumRow := by
 unfold tabRow sumRow
 apply List.map_congr_left
 intro i hi
 rw [if_pos (List.mem_range.1 hi)]
theorem tabRow_at (k : Nat) {i : Nat} (h : i < 256) : (tabRow k)[i]? = some (.int .u32 ((if i < k then crcTab i else 0 : Nat) : Nat)) := by
 unfold tabRow; rw [List.getElem?_map, List.getElem?_range h]; rfl
theorem tabRow_len (k : Nat) : (tabRow k).length = 256 := by unfold tabRow; rw [List.length_map, List.length_range]
theorem tabRow_set {k : Nat} (hk : k < 256) : (tabRow k).set k (.int .u32 (crcTab k : Nat)) = tabRow (k + 1) := by
 apply List.ext_getElem?
 intro i
 by_cases hi : i < 256
 ·rw [tabRow_at (k + 1) hi]
  by_cases h : k = i
  ·subst h
   rw [List.getElem?_set_self (by rw [tabRow_len]; exact hk), if_pos (by omega)]
  ·rw [List.getElem?_set_ne h, tabRow_at k hi]
   by_cases h3 : i < k
   ·rw [if_pos h3, if_pos (by omega)]
   ·rw [if_neg h3, if_neg (by omega)]
 ·rw [List.getElem?_eq_none (by rw [List.length_set, tabRow_len]; omega), List.getElem?_eq_none (by rw [tabRow_len]; omega)]
theorem zero151 : Tryz.zeroCells218 = (tabRow 0).toArray := by kernel_rfl
theorem crcIt_succ : ∀ (k r : Nat), crcIt (k + 1) r = crcBit (crcIt k r)
 | 0, _ => rfl
 | k + 1, r => by
  show crcIt (k + 1) (crcBit r) = _
  rw [crcIt_succ k (crcBit r)]; rfl
theorem crcBit_lt {r : Nat} (h : r < 4294967296) : crcBit r < 4294967296 := by
 unfold crcBit
 split
 ·exact xor_lt32 (by omega) (by omega)
 ·omega
theorem crcIt_lt : ∀ (k : Nat) {r : Nat}, r < 4294967296 → crcIt k r < 4294967296
 | 0, _, h => h
 | k + 1, _, h => crcIt_lt k (crcBit_lt h)
set_option maxRecDepth 100000 in
set_option maxHeartbeats 1600000 in
theorem sumMake_any (W : World) : Calls Tryz.prog 61 #[] W fun e w' => ∃ b, e = .returned (.pointer (some ⟨b, 0, none⟩)) ∧ Blk w' b 218 sumRow ∧ Mods [] W w' ∧ W.heap.size ≤ b := by
 obtain ⟨w1, hw1⟩ : ∃ w1, W.alloc (.cells Tryz.zeroCells218 218) = w1 := ⟨_, rfl⟩
 have hb : Blk w1 W.heap.size 218 (tabRow 0) := by rw [← hw1, zero151]; exact Blk.new W 218 (tabRow 0)
 have hm : Mods [] W w1 := by rw [← hw1]; exact (Mods.refl _ _).alloc _
 have HB := Lib.hid hb
 have HM := Lib.hid hm
 have hw1' := Lib.hid hw1
 clear hb hm hw1
 go_enter Tryz.func61, Tryz.ntmps61
 go_wp2_with fail
 rw [hw1'.out]
 go_loopw [2, 3, 4, 6] (fun _ _ _ iv wr => ∃ k : Nat, k ≤ 256 ∧ iv = .int .i64 k ∧ Blk wr W.heap.size 218 (tabRow k) ∧ Mods [] W wr) (fun _ _ _ iv _ => 256 - (intOf iv).toNat)
 case atStart => exact ⟨0, by omega, rfl, HB.out, HM.out⟩
 case round =>
  obtain ⟨k, hk, rfl, hB, hm⟩ := hrel
  have HBr := Lib.hid hB
  have HMr := Lib.hid hm
  by_cases hkl : k < 256
  ·have t0 := hB.cell (i := k) (v := .int .u32 ((0 : Nat) : Int)) (by unfold tabRow; rw [List.getElem?_map, List.getElem?_range hkl]; simp)
   have f0 := hB.free k
   have hw0 : IntKind.u32.wrap (k : Int) = (k : Int) := by simp [IntKind.wrap, IntKind.bits, IntKind.signed]; omega
   clear hB hm
   go_wp2_with fail
   go_loopw [3, 4, 11] (fun rv _ jv w2 => ∃ j : Nat, j ≤ 8 ∧ jv = .int .i64 j ∧ rv = .int .u32 (crcIt j k : Nat) ∧ wr = w2) (fun _ _ jv _ => 8 - (intOf jv).toNat)
   case atStart => exact ⟨0, by omega, rfl, rfl, rfl⟩
   case round =>
    obtain ⟨j, hj, rfl, rfl, rfl⟩ := hrel
    obtain ⟨r, hr⟩ : ∃ r, crcIt j k = r := ⟨_, rfl⟩
    have hrl : r < 4294967296 := by rw [← hr]; exact crcIt_lt j (by omega)
    by_cases hj8 : j < 8
    ·have hn : Hid (crcIt (j + 1) k = crcBit r) := by rw [crcIt_succ, hr]; exact rfl
     have ha : bits .and .u32 (r : Int) 1 = ((r % 2 : Nat) : Int) := by
      have h := u32_and_nat r 1 hrl (by omega)
      rw [Nat.and_one_is_mod] at h; exact h
     rw [hr]
     clear hr
     rcases Nat.mod_two_eq_zero_or_one r with h2 | h2
     ·rw [h2] at ha
      have hx : bits .xor .u32 ((r : Int) / 2) 0 = ((r / 2 : Nat) : Int) := by
       have h := u32_xor_nat (r / 2) 0 (by omega) (by omega)
       rw [Nat.xor_zero] at h; exact h
      have hfin : crcBit r = r / 2 := by unfold crcBit; rw [if_neg (by omega)]
      rw [hfin] at hn
      clear hfin
      go_wp2_with fail
      go_roundw
      case rel => exact ⟨j + 1, by omega, by simp, by rw [hn.out]; rfl, by simp⟩
      case measure => simp [intOf]; omega
     ·rw [h2] at ha
      obtain ⟨r2, hr2⟩ : ∃ r2, (r / 2) ^^^ 2197175160 = r2 := ⟨_, rfl⟩
      have hx : bits .xor .u32 ((r : Int) / 2) 2197175160 = (r2 : Int) := by
       have h := u32_xor_nat (r / 2) 2197175160 (by omega) (by omega)
       rw [hr2] at h; exact h
      have hfin : crcBit r = r2 := by unfold crcBit; rw [if_pos h2]; exact hr2
      rw [hfin] at hn
      clear hfin hr2
      go_wp2_with fail
      go_roundw
      case rel => exact ⟨j + 1, by omega, by simp, by rw [hn.out], by simp⟩
      case measure => simp [intOf]; omega
    ·obtain rfl : j = 8 := by omega
     rw [hr]
     have HR := Lib.hid (show crcTab k = r from hr)
     clear hr
     go_wp2_with fail
     go_roundw
     case rel =>
      refine ⟨k + 1, by omega, by simp, ?_, HMr.out.setCell (.inr (Nat.le_refl _)) _⟩
      rw [← tabRow_set hkl, HR.out]
      exact HBr.out.set k _
     case measure => simp [intOf]; omega
  ·obtain rfl : k = 256 := by omega
   rw [tabRow_full] at HBr
   clear hB hm
   go_wp2_with fail
   go_ret
   exact ⟨W.heap.size, rfl, HBr.out, HMr.out, Nat.le_refl _⟩
end Go.Proofs.YtkjpdfomppjiiaaGreatDoor
/- env: what may be; room; widths. -/
namespace Go.Proofs.YtkjpdfomppjiiaaGreatDoor
open Go.RowKit

structure EHead where
 kind : Nat
 addr : Int
 gen : Nat
def sizedE (n : Int) : Bool := decide (128 ≤ n) && decide (n ≤ 1024)
def placedE (a : Int) : Bool := decide (0 ≤ a) && decide (a ≤ 2147483647)
def EHead.right (h : EHead) : Bool := decide (1 ≤ h.kind) && decide (h.kind ≤ 5) && placedE h.addr
def headV (h : EHead) : Value := .agg #[.int .u8 (h.kind : Nat), .int .i64 h.addr, .int .u64 (h.gen : Nat)]
def widthsE : List Nat := [1, 1, 2, 4, 8]
theorem eSized_any {W : World} (n : Int) : Calls Tryz.prog 157 #[.int .i64 n] W fun e w' => e = .returned (.bool (sizedE n)) ∧ W = w' := by
 go_enter Tryz.func157, Tryz.ntmps157
 go_wp2_with fail
 all_goals go_ret
 all_goals refine ⟨?_, rfl⟩
 all_goals simp [sizedE, *]
 all_goals (intros; omega)
theorem ePlaced_any {W : World} (n : Int) : Calls Tryz.prog 211 #[.int .i64 n] W fun e w' => e = .returned (.bool (placedE n)) ∧ W = w' := by
 go_enter Tryz.func211, Tryz.ntmps211
 go_wp2_with fail
 all_goals go_ret
 all_goals refine ⟨?_, rfl⟩
 all_goals simp [placedE, *]
 all_goals (intros; omega)
theorem eHRight_any {W : World} (h : EHead) : Calls Tryz.prog 158 #[headV h] W fun e w' => e = .returned (.bool h.right) ∧ Mods [] W w' := by
 have hp := Lib.hid (fun W => ePlaced_any (W := W) h.addr)
 obtain ⟨pb, hpb⟩ : ∃ pb, placedE h.addr = pb := ⟨_, rfl⟩
 rw [hpb] at hp
 have HP := Lib.hid hpb
 clear hpb
 unfold headV
 go_enter Tryz.func158, Tryz.ntmps158
 go_wp2_with (go_at_call 211; refine (hp.out _).mono ?_; rintro e w' ⟨rfl, rfl⟩)
 all_goals go_ret
 all_goals refine ⟨?_, (Mods.refl _ _).alloc _⟩
 all_goals simp [EHead.right, HP.out, *]
 all_goals (intros; omega)
theorem eRoom_any {W : World} (n : Int) : Calls Tryz.prog 159 #[.int .i64 n] W fun e w' => e = .returned (.int .i64 (if sizedE n then n - 24 else 0)) ∧ W = w' := by
 cases hs : sizedE n with
 | false =>
  have hp := Lib.hid (eSized_any (W := W) n)
  rw [hs] at hp
  clear hs
  go_enter Tryz.func159, Tryz.ntmps159
  go_wp2_with (go_at_call 157; refine hp.out.mono ?_; rintro e w' ⟨rfl, rfl⟩)
  go_ret
  exact ⟨by simp, rfl⟩
 | true =>
  have hp := Lib.hid (eSized_any (W := W) n)
  rw [hs] at hp
  unfold sizedE at hs
  simp only [Bool.and_eq_true, decide_eq_true_eq] at hs
  have hw : IntKind.i64.wrap (n - 24) = n - 24 := by rw [IntKind.wrap_i64]; omega
  obtain ⟨y, hy⟩ : ∃ y : Int, n - 24 = y := ⟨_, rfl⟩
  rw [hy] at hw ⊢
  clear hs
  go_enter Tryz.func159, Tryz.ntmps159
  go_wp2_with (go_at_call 157; refine hp.out.mono ?_; rintro e w' ⟨rfl, rfl⟩)
  go_ret
  refine ⟨?_, rfl⟩
  simp
  try omega
theorem eWidths_any (W : World) : Calls Tryz.prog 212 #[] W fun e w' => e = .returned (.slice (some ⟨W.heap.size, 0, none⟩) 5 5) ∧ Row w' (some ⟨W.heap.size, 0, none⟩) (intsRow widthsE) ∧ Mods [] W w' := by
 go_enter Tryz.func212, Tryz.ntmps212
 go_wp2_with fail
 go_ret
 refine ⟨rfl, .inr ⟨W.heap.size, 0, rfl, fun i u hi => ?_⟩, (Mods.refl _ _).alloc _⟩
 rw [Nat.zero_add]
 exact (Blk.new W 3 (intsRow widthsE)).cell hi
end Go.Proofs.YtkjpdfomppjiiaaGreatDoor
namespace Go.Proofs.YtkjpdfomppjiiaaGreatDoor
open Go.RowKit

def withE (s : ByteArray) (check : Nat) : ByteArray := s.extract 0 20 ++ ⟨(le8 4 check).toArray⟩ ++ s.extract 24 s.size
set_option maxRecDepth 100000 in
set_option maxHeartbeats 1600000 in
theorem eWith_any {W : World} (s : ByteArray) (c : Nat) (hs : 24 ≤ s.size) (hs1 : s.size ≤ 4096) (hc : c < 4294967296) :
  Calls Tryz.prog 162 #[.string s, .int .u32 (c : Nat)] W fun e w' => e = .returned (.string (withE s c)) ∧ Mods [] W w' := by
 have hwc : IntKind.u64.wrap (c : Int) = (c : Int) := by rw [IntKind.wrap_u64]; omega
 go_enter Tryz.func162, Tryz.ntmps162
 go_wp2_with fail
 have h0 : Blk ((W.alloc (.cells #[.int .i64 4] 3)).alloc (.cells #[.int .u64 (c : Nat)] 42)) W.heap.size 3 [.int .i64 4] := (Blk.new W 3 [.int .i64 4]).alloc _
 have h1 : Blk ((W.alloc (.cells #[.int .i64 4] 3)).alloc (.cells #[.int .u64 (c : Nat)] 42)) (W.heap.size + 1) 42 [.int .u64 (c : Nat)] := by
  have h := Blk.new (W.alloc (.cells #[.int .i64 4] 3)) 42 [.int .u64 (c : Nat)]
  have e : (W.alloc (.cells #[.int .i64 4] 3)).heap.size = W.heap.size + 1 := by simp
  rw [e] at h; exact h
 have hfit : FitsW [4] [c] := ⟨rfl, fun i w n h2 h3 => by
  cases i with
  | zero => cases h2; cases h3; exact ⟨by omega, by omega, hc⟩
  | succ i => simp at h2⟩
 refine (lWrite_any (ws := [4]) (ns := [c]) (.inr ⟨W.heap.size, 0, rfl, fun i u hi => by rw [Nat.zero_add]; exact h0.cell hi⟩) (.inr ⟨W.heap.size + 1, 0, rfl, fun i u hi => by rw [Nat.zero_add]; exact h1.cell hi⟩) (n := 1) rfl (by decide) (by decide) hfit).mono ?_
 rintro x w2 ⟨rfl, hm2⟩
 have HM := Lib.hid ((((Mods.refl [] W).alloc _).alloc _).trans hm2 (by simp))
 clear h0 h1 hfit hm2
 obtain ⟨q, hq⟩ : ∃ q : ByteArray, ⟨(leW [4] [c]).toArray⟩ = q := ⟨_, rfl⟩
 have hq4 : q.size = 4 := by rw [← hq]; rfl
 have HQ := Lib.hid (show ⟨(le8 4 c).toArray⟩ = q by rw [← hq]; simp [leW])
 rw [hq]
 clear hq
 go_wp2_with fail
 go_quiet (fail)
 go_wp2_with fail
 go_ret
 refine ⟨?_, HM.out.drewN _⟩
 unfold withE
 rw [HQ.out]
 simp
end Go.Proofs.YtkjpdfomppjiiaaGreatDoor
