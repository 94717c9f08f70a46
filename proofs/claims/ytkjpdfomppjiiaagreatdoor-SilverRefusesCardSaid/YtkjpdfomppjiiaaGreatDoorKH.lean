/- The mirror: Images, Degraded, Repairs, Pair. -/
import Derived.Test.YtkjpdfomppjiiaaGreatDoorKF
import Derived.Test.YtkjpdfomppjiiaaGreatDoorKG
import Derived.Test.YtkjpdfomppjiiaaGreatDoorKA
import Derived.ArgAppend
import Derived.OwnWalk
import Derived.Deep.RegionHeld3
/- The mirror, plainly: what each of its methods does; what every pair keeps whose power stays. -/
namespace Go.Proofs.YtkjpdfomppjiiaaGreatDoor

structure PtrE where
 addr : Int
 gen : Nat
 sum : Nat
def meetsL (p : PtrE) (x : List UInt8) : Bool :=
 match openL x with
 | none => false
 | some (h, _) => decide (h.addr = p.addr) && decide (h.gen = p.gen) && decide (eSumOf x = p.sum)
structure Mi where
 P : Pr
 bl : List (Nat × Nat)
 reps : Nat
def addB (l : List (Nat × Nat)) (a : Nat × Nat) : List (Nat × Nat) := if a ∈ l then l else l ++ [a]
def remB (l : List (Nat × Nat)) (a : Nat × Nat) : List (Nat × Nat) := l.filter (fun c => decide (c ≠ a))
namespace Mi
def put (M : Mi) (s i : Nat) (x : ByteArray) : Nat × Mi :=
 let r := Pr.write (M.P.n + 1) M.P s (i : Int) x
 (r.1, { M with P := r.2, bl := if r.1 = 9 then addB M.bl (s, i) else if r.1 = 0 then remB M.bl (s, i) else M.bl })
def none (M : Mi) (o : Nat) : Nat := if ((M.P.dev 0).gone && (M.P.dev 1).gone) = true then 8 else o
def write (M : Mi) (i : Nat) (x : ByteArray) : Nat × Mi :=
 let a := M.put 0 i x
 let b := a.2.put 1 i x
 (if a.1 = 0 ∨ b.1 = 0 then 0 else b.2.none 7, b.2)
def flush (M : Mi) : Nat × Mi :=
 let M2 : Mi := { M with P := (((M.P.flush 0).2).flush 1).2 }
 (M2.none 0, M2)
def repair (M : Mi) (s i : Nat) (x : ByteArray) : Bool × Mi :=
 if (M.P.dev s).gone = true then (false, M) else
  let a := M.put s i x
  (decide (a.1 = 0), if a.1 = 0 then { a.2 with reps := a.2.reps + 1 } else a.2)
def has (M : Mi) (p : PtrE) (s i : Nat) : Bool := decide ((M.P.read s (i : Int)).2 = 0) && meetsL p (M.P.read s (i : Int)).1.toList
def whole (M : Mi) (p : PtrE) (i : Nat) : ByteArray × Nat × Nat :=
 if M.has p 0 i = true then ((M.P.read 0 (i : Int)).1, 0, 0) else
  if M.has p 1 i = true then ((M.P.read 1 (i : Int)).1, 1, 0) else (⟨#[]⟩, 0, M.none 10)
def healS (M : Mi) (s i : Nat) (x : ByteArray) : Nat × Mi :=
 if M.P.read s (i : Int) = (x, 0) then (0, M) else
  let r := M.repair s i x
  (if r.1 = true then 1 else 0, r.2)
def heal (M : Mi) (i : Nat) (x : ByteArray) : Nat × Mi :=
 let a := M.healS 0 i x
 let b := a.2.healS 1 i x
 (a.1 + b.1, b.2)
def check (M : Mi) (p : PtrE) (i : Nat) : (Nat × Nat) × Mi :=
 if (M.whole p i).2.2 ≠ 0 then ((0, (M.whole p i).2.2), M) else (((M.heal i (M.whole p i).1).1, 0), (M.heal i (M.whole p i).1).2)
def imgs (M : Mi) (i : Nat) : List ByteArray :=
 (if (M.P.read 0 (i : Int)).2 = 0 then [(M.P.read 0 (i : Int)).1] else []) ++ (if (M.P.read 1 (i : Int)).2 = 0 then [(M.P.read 1 (i : Int)).1] else [])
end Mi

namespace Dev
structure On (z c : Nat) (D : Dev) : Prop where
 off : D.off = false
 fuse : D.fuse = 0
 size : D.size = z
 few : D.cache.length ≤ c
theorem On.mono {z c c' : Nat} {D : Dev} (h : On z c D) (hl : c ≤ c') : On z c' D := ⟨h.off, h.fuse, h.size, Nat.le_trans h.few hl⟩
theorem On.burn {z c : Nat} {D : Dev} (h : On z c D) : D.burn = (0, D) := by unfold Dev.burn; rw [if_pos h.fuse]
theorem On.ready {z c : Nat} {D : Dev} (h : On z c D) : D.ready = if D.gone then 8 else 0 := by unfold Dev.ready; rw [h.off]; simp
theorem On.put {z c : Nat} {D : Dev} (h : On z c D) (i : Nat) (x : ByteArray) : On z (c + 1) (D.put i x) ∧ (D.put i x).gone = D.gone ∧ (D.put i x).bad = D.bad := by
 have hf := h.few
 unfold Dev.put
 simp only
 split
 ·split
  ·exact ⟨⟨h.off, h.fuse, h.size, Nat.le_succ_of_le hf⟩, rfl, rfl⟩
  ·exact ⟨⟨h.off, h.fuse, h.size, by simp; exact hf⟩, rfl, rfl⟩
 ·split
  ·exact ⟨⟨h.off, h.fuse, h.size, Nat.le_succ_of_le hf⟩, rfl, rfl⟩
  ·exact ⟨⟨h.off, h.fuse, h.size, by simp; exact hf⟩, rfl, rfl⟩
theorem On.write {z c : Nat} {D : Dev} (h : On z c D) (i : Int) (x : ByteArray) : On z (c + 1) (D.write i x).2 ∧ (D.write i x).2.gone = D.gone ∧ (D.write i x).2.bad = D.bad ∧ (D.write i x).1 ≠ 6 ∧ (D.gone = true → D.write i x = (8, D)) := by
 have h1 := h.mono (Nat.le_succ c)
 unfold Dev.write
 rw [h.ready]
 cases hg : D.gone with
 | true => simp only [if_true]; exact ⟨h1, hg, rfl, by simp, fun _ => rfl⟩
 | false =>
  rw [h.burn]
  simp only [Bool.false_eq_true, if_false, ne_eq, not_true_eq_false, false_implies]
  split
  ·exact ⟨h1, hg, rfl, by simp, trivial⟩
  ·split
   ·exact ⟨h1, hg, rfl, by simp, trivial⟩
   ·split
    ·exact ⟨h1, hg, rfl, by simp, trivial⟩
    ·obtain ⟨a, b, c⟩ := h.put i.toNat x
     exact ⟨a, b.trans hg, c, by simp, trivial⟩
theorem On.flush {z c : Nat} {D : Dev} (h : On z c D) : On z c D.flush.2 ∧ D.flush.2.gone = D.gone ∧ D.flush.2.bad = D.bad ∧ D.flush.1 ≠ 6 ∧ (D.gone = true → D.flush = (8, D)) ∧ (D.gone = false → D.flush.1 = 0) := by
 unfold Dev.flush
 rw [h.ready]
 cases hg : D.gone with
 | true => simp only [if_true]; exact ⟨h, hg, rfl, by simp, fun _ => rfl, by simp⟩
 | false =>
  rw [h.burn]
  simp only [Bool.false_eq_true, if_false, ne_eq, not_true_eq_false, false_implies]
  refine ⟨⟨h.off, h.fuse, h.size, Nat.zero_le _⟩, hg, ?_, ?_, ?_, ?_⟩
  all_goals first | trivial | simp
theorem On.read {z c : Nat} {D : Dev} (h : On z c D) (i : Int) : (D.read i).2 ≠ 6 ∧ (D.gone = true → D.read i = (⟨#[]⟩, 8)) := by
 unfold Dev.read
 rw [h.ready]
 cases hg : D.gone with
 | true => simp
 | false =>
  simp only [Bool.false_eq_true, if_false, ne_eq, not_true_eq_false, false_implies]
  refine ⟨?_, trivial⟩
  split
  ·simp
  ·split <;> simp
theorem On.putD {z c : Nat} {D : Dev} (h : On z c D) (k : Nat) (x : ByteArray) : On z (c + 1) (putD D k x).2 ∧ (putD D k x).2.gone = D.gone ∧ (putD D k x).2.bad = D.bad ∧ (putD D k x).1.2 = 0 := by
 obtain ⟨a1, a2, a3, a4, _⟩ := h.write (k : Int) x
 unfold Go.Proofs.YtkjpdfomppjiiaaGreatDoor.putD
 simp only
 by_cases h0 : (D.write (k : Int) x).1 = 0
 ·rw [if_pos h0]
  obtain ⟨b1, b2, b3, b4, _⟩ := a1.flush
  rw [if_neg b4]
  exact ⟨b1, b2.trans a2, b3.trans a3, rfl⟩
 ·rw [if_neg h0, if_neg a4]
  exact ⟨a1, a2, a3, rfl⟩
end Dev
structure Fine (B z c : Nat) (P : Pr) : Prop where
 on : ∀ d, d < 2 → (P.dev d).On z c
 spares : ∀ s, s < 2 → (P.tab s).spares = P.n
 blocks : ∀ s, s < 2 → (P.tab s).blocks = B
structure Alike (P P' : Pr) : Prop where
 n : P'.n = P.n
 gone : ∀ d, d < 2 → (P'.dev d).gone = (P.dev d).gone
 bad : ∀ d, d < 2 → (P'.dev d).bad = (P.dev d).bad
theorem Alike.refl (P : Pr) : Alike P P := ⟨rfl, fun _ _ => rfl, fun _ _ => rfl⟩
theorem Alike.trans {P Q R : Pr} (h : Alike P Q) (g : Alike Q R) : Alike P R := ⟨g.n.trans h.n, fun d hd => (g.gone d hd).trans (h.gone d hd), fun d hd => (g.bad d hd).trans (h.bad d hd)⟩
theorem Fine.mono {B z c c' : Nat} {P : Pr} (h : Fine B z c P) (hl : c ≤ c') : Fine B z c' P := ⟨fun d hd => (h.on d hd).mono hl, h.spares, h.blocks⟩
theorem Fine.setDev {B z c c' : Nat} {P : Pr} (h : Fine B z c P) (hl : c ≤ c') (s : Nat) {D : Dev} (hD : D.On z c') (hg : D.gone = (P.dev s).gone) (hb : D.bad = (P.dev s).bad) : Fine B z c' (P.setDev s D) ∧ Alike P (P.setDev s D) := by
 refine ⟨⟨fun d hd => ?_, h.spares, h.blocks⟩, ⟨rfl, fun d hd => ?_, fun d hd => ?_⟩⟩
 ·show (if d = s then D else P.dev d).On z c'
  split
  ·exact hD
  ·exact (h.on d hd).mono hl
 ·show (if d = s then D else P.dev d).gone = _
  split
  ·rename_i e; rw [e]; exact hg
  ·rfl
 ·show (if d = s then D else P.dev d).bad = _
  split
  ·rename_i e; rw [e]; exact hb
  ·rfl
theorem Fine.keep {B z c : Nat} {P : Pr} (h : Fine B z c P) {s : Nat} (hs : s < 2) {t : Tab} (h1 : t.spares = P.n) (h2 : t.blocks = B) : Fine B z (c + 1) (P.keep s t).2 ∧ Alike P (P.keep s t).2 ∧ (P.keep s t).1 ≠ 6 := by
 unfold Pr.keep
 simp only
 obtain ⟨a1, a2, a3, a4⟩ := (h.on s hs).putD (slotOf true t.moved.length) (bA (imageOf (P.dev s).size s t.moved))
 obtain ⟨f1, g1⟩ := h.setDev (Nat.le_succ c) s a1 a2 a3
 obtain ⟨b1, b2, b3, b4⟩ := (h.on (1 - s) (by omega)).putD (slotOf false t.moved.length) (bA (imageOf (P.dev s).size s t.moved))
 have hd : (P.setDev s (putD (P.dev s) (slotOf true t.moved.length) (bA (imageOf (P.dev s).size s t.moved))).2).dev (1 - s) = P.dev (1 - s) := by
  unfold Pr.setDev; simp only; rw [if_neg (by omega)]
 obtain ⟨f2, g2⟩ := f1.setDev (Nat.le_refl _) (1 - s) b1 (by rw [hd]; exact b2) (by rw [hd]; exact b3)
 rw [if_neg (by rw [a4]; simp), if_neg (by rw [b4]; simp)]
 split
 ·exact ⟨f2, g1.trans g2, by simp⟩
 ·refine ⟨⟨f2.on, fun k hk => ?_, fun k hk => ?_⟩, ⟨(g1.trans g2).n, (g1.trans g2).gone, (g1.trans g2).bad⟩, by simp⟩
  ·show (if k = s then t else _).spares = _
   split
   ·exact h1
   ·exact h.spares k hk
  ·show (if k = s then t else _).blocks = _
   split
   ·exact h2
   ·exact h.blocks k hk
theorem Fine.move {B z c : Nat} {P : Pr} (h : Fine B z c P) {s : Nat} (hs : s < 2) (i : Int) : Fine B z (c + 1) (P.move s i).2 ∧ Alike P (P.move s i).2 ∧ (P.move s i).1 ≠ 6 := by
 unfold Pr.move
 have hm : ((P.tab s).move i).2 = 0 → ((P.tab s).move i).1.spares = P.n ∧ ((P.tab s).move i).1.blocks = B := by
  unfold Tab.move
  split
  ·intro e; simp at e
  ·split
   ·intro e; simp at e
   ·intro _; exact ⟨h.spares s hs, h.blocks s hs⟩
 have h6 : ((P.tab s).move i).2 ≠ 6 := by
  unfold Tab.move
  split
  ·simp
  ·split <;> simp
 split
 ·exact ⟨h.mono (Nat.le_succ c), Alike.refl P, h6⟩
 ·rename_i e
  have e0 : ((P.tab s).move i).2 = 0 := by simpa using e
  exact h.keep hs (hm e0).1 (hm e0).2
theorem Fine.write : ∀ (k : Nat) {B z c : Nat} {P : Pr}, Fine B z c P → ∀ {s : Nat}, s < 2 → ∀ (i : Int) (x : ByteArray), Fine B z (c + 2 * k) (Pr.write k P s i x).2 ∧ Alike P (Pr.write k P s i x).2 ∧ (Pr.write k P s i x).1 ≠ 6
 | 0, B, z, c, P, h, s, hs, i, x => ⟨h, Alike.refl P, by simp [Pr.write]⟩
 | k + 1, B, z, c, P, h, s, hs, i, x => by
  unfold Pr.write
  have h6 : (P.sector s i).2 ≠ 6 := by
   unfold Pr.sector Tab.at_
   split <;> simp
  split
  ·exact ⟨h.mono (by omega), Alike.refl P, h6⟩
  ·simp only
   obtain ⟨a1, a2, a3, a4, _⟩ := (h.on s hs).write ((P.sector s i).1 : Nat) x
   obtain ⟨f1, g1⟩ := h.setDev (Nat.le_succ c) s a1 a2 a3
   split
   ·exact ⟨f1.mono (by omega), g1, a4⟩
   ·obtain ⟨f2, g2, e2⟩ := f1.move hs i
    split
    ·exact ⟨f2.mono (by omega), g1.trans g2, e2⟩
    ·obtain ⟨f3, g3, e3⟩ := Fine.write k f2 hs i x
     exact ⟨f3.mono (by omega), (g1.trans g2).trans g3, e3⟩
theorem Fine.flush {B z c : Nat} {P : Pr} (h : Fine B z c P) {s : Nat} (hs : s < 2) : Fine B z c (P.flush s).2 ∧ Alike P (P.flush s).2 ∧ (P.flush s).1 ≠ 6 := by
 obtain ⟨a1, a2, a3, a4, _⟩ := (h.on s hs).flush
 obtain ⟨f1, g1⟩ := h.setDev (Nat.le_refl c) s a1 a2 a3
 exact ⟨f1, g1, a4⟩
theorem Fine.read {B z c : Nat} {P : Pr} (h : Fine B z c P) {s : Nat} (hs : s < 2) (i : Int) : (P.read s i).2 ≠ 6 := by
 unfold Pr.read
 split
 ·unfold Pr.sector Tab.at_
  split <;> simp
 ·exact ((h.on s hs).read _).1
end Go.Proofs.YtkjpdfomppjiiaaGreatDoor
/- The mirror: how it lies, New, and what a nil one answers. -/
namespace Go.Proofs.YtkjpdfomppjiiaaGreatDoor
open Go.RowKit

def kvPl (a : Nat × Nat) : Value := .agg #[.int .i64 (a.1 : Nat), .int .i64 (a.2 : Nat)]
theorem kvPl_inj (a c : Nat × Nat) (h : kvPl a = kvPl c) : a = c := by
 unfold kvPl at h
 simp only [Value.agg.injEq, Array.mk.injEq, List.cons.injEq, Value.int.injEq, true_and, and_true] at h
 obtain ⟨h1, h2⟩ := h
 exact Prod.ext (by omega) (by omega)
def IsMir (w : World) (b p tb mb q : Nat) : Prop := Blk w b 118 [.pointer (some ⟨p, 0, none⟩), .pointer (some ⟨tb, 0, none⟩), .map (some mb), .int .i64 (q : Nat)]
theorem run_makeMapM (W : World) : (Instr.makeMap 116 none).run Tryz.prog W = .ok (.map (some W.heap.size)) (W.alloc (.map #[] 0)) := by kernel_rfl
theorem mNew_any {W : World} (p : Nat) : Calls Tryz.prog 60 #[.pointer (some ⟨p, 0, none⟩)] W fun e w' => ∃ b tb mb, e = .returned (.tuple #[.pointer (some ⟨b, 0, none⟩), .int .i64 0]) ∧ Hid (IsMir w' b p tb mb 0) ∧ Hid (Blk w' tb 218 sumRow) ∧ Hid (MapK kvPl w' mb (fun _ => none) 0) ∧ Hid (Mods [] W w') ∧ Hid (W.heap.size ≤ tb ∧ tb < mb ∧ mb < b) := by
 have hmm := run_makeMapM
 go_enter Tryz.func60, Tryz.ntmps60
 go_wp2_with (go_at_call 61; refine (sumMake_any _).mono ?_; rintro e w1 ⟨sb, rfl, hsum, hm1, hsb⟩; have HM1 := Lib.hid hm1; have HS := Lib.hid (And.intro hsum hsb); clear hm1 hsum hsb)
 go_ret2
 have hl := HS.out.1.lt
 have hsz : (w1.alloc (.map #[] 0)).heap.size = w1.heap.size + 1 := by simp
 have hk := Blk.new (w1.alloc (.map #[] 0)) 118 [.pointer (some ⟨p, 0, none⟩), .pointer (some ⟨sb, 0, none⟩), .map (some w1.heap.size), .int .i64 ((0 : Nat) : Int)]
 rw [hsz] at hk
 refine ⟨w1.heap.size + 1, sb, w1.heap.size, rfl, Lib.hid hk, Lib.hid ((HS.out.1.alloc _).alloc _), Lib.hid ((MapK.made w1).keep (L := []) ((Mods.refl _ _).alloc _) (List.not_mem_nil)), Lib.hid ((HM1.out.alloc _).alloc _), Lib.hid ⟨HS.out.2, hl, Nat.lt_succ_self _⟩⟩
end Go.Proofs.YtkjpdfomppjiiaaGreatDoor
/- A mirror as it lies in memory: with its pair, its table of sums, and the map of its bad places. -/
namespace Go.Proofs.YtkjpdfomppjiiaaGreatDoor
open Go.RowKit Go.MapKept

theorem place_equal (a c : Nat × Nat) (w : World) : (Op.equal 344 (kvPl a) (kvPl c)).run Tryz.prog w = .ok (decide (a = c)) w := by
 have hd : decide (a = c) = (decide (a.1 = c.1) && decide (a.2 = c.2)) := by
  rw [← Bool.decide_and, decide_eq_decide]
  exact ⟨fun e => by rw [e]; exact ⟨rfl, rfl⟩, fun ⟨h1, h2⟩ => Prod.ext h1 h2⟩
 have e1 : decide (a.1 = c.1) = decide ((a.1 : Int) = (c.1 : Int)) := by rw [decide_eq_decide]; omega
 have e2 : decide (a.2 = c.2) = decide ((a.2 : Int) = (c.2 : Int)) := by rw [decide_eq_decide]; omega
 rw [hd, e1, e2]
 unfold kvPl
 generalize (a.1 : Int) = p
 generalize (a.2 : Int) = q
 generalize (c.1 : Int) = r
 generalize (c.2 : Int) = s
 unfold Op.equal Op.maxDepth
 by_cases h1 : p = r
 ·by_cases h2 : q = s
  ·subst h1; subst h2; go_simp
  ·subst h1; go_simp
 ·go_simp
theorem place_check (em : Bool) (a : Nat × Nat) (w : World) : (Instr.checkKey em 10000 344 (kvPl a)).run Tryz.prog w = .ok () w := by
 unfold kvPl
 kernel_rfl
theorem place_asking (w : World) (a : Nat × Nat) : ∀ (es : List MapEntry) (i : Nat), (∀ e ∈ es, ∃ c, e.key = kvPl c) →
  ((Instr.findAsking 344 (kvPl a) es i).run Tryz.prog w = .ok none w ∧ ∀ e ∈ es, e.key ≠ kvPl a) ∨ ∃ j e, (Instr.findAsking 344 (kvPl a) es i).run Tryz.prog w = .ok (some (i + j, e.val)) w ∧ es[j]? = some e ∧ e.key = kvPl a
 | [], i, _ => .inl ⟨rfl, by simp⟩
 | e :: es, i, h => by
  obtain ⟨c, hc⟩ := h e (List.mem_cons_self ..)
  have he := place_equal a c w
  rw [← hc] at he
  by_cases hac : a = c
  ·refine .inr ⟨0, e, ?_, rfl, by rw [hc, hac]⟩
   rw [decide_eq_true hac] at he
   simp [Instr.findAsking, he, Sem.run_bind, Result.andThen]
  ·rw [decide_eq_false hac] at he
   have hr : (Instr.findAsking 344 (kvPl a) (e :: es) i).run Tryz.prog w = (Instr.findAsking 344 (kvPl a) es (i + 1)).run Tryz.prog w := by
    simp [Instr.findAsking, he, Sem.run_bind, Result.andThen]
   rcases place_asking w a es (i + 1) (fun x hx => h x (List.mem_cons_of_mem _ hx)) with ⟨h1, h2⟩ | ⟨j, e', h1, h2, h3⟩
   ·refine .inl ⟨hr.trans h1, fun x hx => ?_⟩
    rcases List.mem_cons.1 hx with rfl | hx
    ·rw [hc]; exact fun e => hac (kvPl_inj _ _ e).symm
    ·exact h2 x hx
   ·exact .inr ⟨j + 1, e', by rw [hr, h1, show i + 1 + j = i + (j + 1) by omega], h2, h3⟩
theorem place_now (a : Nat × Nat) {d : TypeDesc} (hd : Tryz.prog.underlying 344 = some d) (w : World) (es : List MapEntry) (h : ∀ e ∈ es, ∃ c, e.key = kvPl c) :
  (Instr.findKey 344 (kvPl a) es).run Tryz.prog w = (Instr.findAsking 344 (kvPl a) es 0).run Tryz.prog w := by
 cases es with
 | nil => simp [Instr.findKey, Instr.findNow, Instr.findAsking, run_underlying hd, Result.andThen]
 | cons e es =>
  obtain ⟨c, hc⟩ := h e (List.mem_cons_self ..)
  have hn : ∀ i, Instr.findNow d (kvPl a) (e :: es) i = none := by
   intro i
   unfold Instr.findNow
   rw [hc]
   have : Instr.sameNow d (kvPl a) (kvPl c) = none := by unfold kvPl Instr.sameNow; cases d <;> rfl
   rw [this]
  simp [Instr.findKey, run_underlying hd, Result.andThen, Sem.run_bind, hn]
theorem place_law : KLaw Tryz.prog 344 kvPl := by
 refine ⟨fun w em a => place_check em a w, fun w a es hes => ?_, fun w a => ?_, kvPl_inj⟩
 ·rw [place_now a Tryz.underlying344 w es hes]
  have h := place_asking w a es 0 hes
  simpa using h
 ·unfold Instr.keyThatStays
  have : Instr.sameBits 10000 (kvPl a) (kvPl a) = true := by unfold kvPl; simp [Instr.sameBits]
  rw [this]; rfl

def badF (l : List (Nat × Nat)) : Nat × Nat → Option Value := fun a => if a ∈ l then some (.bool true) else none
theorem badF_nil : badF [] = fun _ => none := by funext a; simp [badF]
theorem badF_some (l : List (Nat × Nat)) (a : Nat × Nat) : (badF l a).isSome = decide (a ∈ l) := by unfold badF; by_cases h : a ∈ l <;> simp [h]
theorem badF_put (l : List (Nat × Nat)) (a : Nat × Nat) : putF (badF l) a (.bool true) = badF (addB l a) := by
 funext c
 unfold putF badF addB
 by_cases hc : c = a
 ·subst hc
  by_cases h : c ∈ l <;> simp [h]
 ·by_cases h : a ∈ l
  ·simp [h, hc]
  ·simp [h, hc]
theorem badF_del (l : List (Nat × Nat)) (a : Nat × Nat) : delF (badF l) a = badF (remB l a) := by
 funext c
 unfold delF badF remB
 by_cases hc : c = a
 ·subst hc; simp
 ·simp [hc]
theorem addB_nodup {l : List (Nat × Nat)} (h : l.Nodup) (a : Nat × Nat) : (addB l a).Nodup := by
 unfold addB
 split
 ·exact h
 ·rename_i hn
  rw [List.nodup_append]
  exact ⟨h, by simp, fun x hx y hy e => hn (by rw [List.mem_singleton.1 hy] at e; rw [← e]; exact hx)⟩
theorem remB_nodup {l : List (Nat × Nat)} (h : l.Nodup) (a : Nat × Nat) : (remB l a).Nodup := h.sublist (List.filter_sublist ..)
theorem addB_len (l : List (Nat × Nat)) (a : Nat × Nat) : (addB l a).length = if decide (a ∈ l) = true then l.length else l.length + 1 := by
 unfold addB
 by_cases h : a ∈ l <;> simp [h]
theorem remB_len : ∀ {l : List (Nat × Nat)}, l.Nodup → ∀ a, (remB l a).length = if decide (a ∈ l) = true then l.length - 1 else l.length
 | [], _, a => by simp [remB]
 | c :: l, h, a => by
  have hn := List.nodup_cons.1 h
  have ih := remB_len hn.2 a
  unfold remB at ih ⊢
  by_cases hc : c = a
  ·subst hc
   have : List.filter (fun x => decide (x ≠ c)) l = l := List.filter_eq_self.2 (fun x hx => by
    rw [decide_eq_true_eq]; rintro rfl; exact hn.1 hx)
   rw [List.filter_cons_of_neg (by simp), this]
   simp
  ·rw [List.filter_cons_of_pos (by simpa using hc), List.length_cons, ih]
   have hac : a ≠ c := fun e => hc e.symm
   by_cases hm : a ∈ l
   ·have : 0 < l.length := List.length_pos_of_mem hm
    simp [hm, hac]; omega
   ·simp [hm, hac]

structure IsM (w : World) (b p tb mb : Nat) (gp : List Nat) (x : Nat → Nat) (fx : Nat → List Nat) (M : Mi) : Prop where
 blk : IsMir w b p tb mb M.reps
 sum : Blk w tb 218 sumRow
 map : MapK kvPl w mb (badF M.bl) M.bl.length
 nd : M.bl.Nodup
 pair : IsPair w p gp x fx M.P
 freeG : ∀ g ∈ gp, g ≠ b ∧ g ≠ tb ∧ g ≠ mb
 freeF : ∀ k, k < 2 → ∀ g ∈ fx k, g ≠ b ∧ g ≠ tb ∧ g ≠ mb
structure MTo (W w' : World) (b p tb mb : Nat) (gp gp' : List Nat) (x : Nat → Nat) (fx fx' : Nat → List Nat) (M' : Mi) : Prop where
 is : IsM w' b p tb mb gp' x fx' M'
 mods : Mods (b :: mb :: p :: (fx 0 ++ fx 1)) W w'
 newF : ∀ k, k < 2 → ∀ g ∈ fx' k, g ∈ fx k ∨ W.heap.size ≤ g
 newG : ∀ g ∈ gp', g ∈ gp ∨ W.heap.size ≤ g
section
variable {W w w1 w2 : World} {b p tb mb : Nat} {gp gp1 gp2 : List Nat} {x : Nat → Nat} {fx fx1 fx2 : Nat → List Nat} {M M1 M2 : Mi}
theorem IsM.at_p (h : IsM w b p tb mb gp x fx M) : p ∈ gp := by
 obtain ⟨_, _, _, hg, _⟩ := h.pair.pb
 rw [hg]; simp [pairFoot]
theorem IsM.ne (h : IsM w b p tb mb gp x fx M) : b ≠ tb ∧ b ≠ mb ∧ tb ≠ mb ∧ p ≠ b ∧ p ≠ tb ∧ p ≠ mb := by
 obtain ⟨es, ck, hm, _⟩ := h.map
 have hb : w.heap[b]? = _ := h.blk
 have ht : w.heap[tb]? = _ := h.sum
 refine ⟨?_, ?_, ?_, h.freeG p h.at_p⟩
 ·rintro rfl
  rw [hb] at ht
  injection ht with ht
  injection ht with _ ht
  exact absurd ht (by decide)
 ·rintro rfl; rw [hb] at hm; cases hm
 ·rintro rfl; rw [ht] at hm; cases hm
theorem IsM.off (h : IsM w b p tb mb gp x fx M) : b ∉ p :: (fx 0 ++ fx 1) ∧ tb ∉ p :: (fx 0 ++ fx 1) ∧ mb ∉ p :: (fx 0 ++ fx 1) := by
 have hp := h.freeG p h.at_p
 refine ⟨fun hx => ?_, fun hx => ?_, fun hx => ?_⟩
 all_goals
  rcases List.mem_cons.1 hx with e | hx
  ·first | exact hp.1 e.symm | exact hp.2.1 e.symm | exact hp.2.2 e.symm
  ·rcases List.mem_append.1 hx with hx | hx
   ·first | exact (h.freeF 0 (by decide) _ hx).1 rfl | exact (h.freeF 0 (by decide) _ hx).2.1 rfl | exact (h.freeF 0 (by decide) _ hx).2.2 rfl
   ·first | exact (h.freeF 1 (by decide) _ hx).1 rfl | exact (h.freeF 1 (by decide) _ hx).2.1 rfl | exact (h.freeF 1 (by decide) _ hx).2.2 rfl
theorem IsM.lt (h : IsM w b p tb mb gp x fx M) : b < w.heap.size ∧ tb < w.heap.size ∧ mb < w.heap.size := ⟨Blk.lt h.blk, h.sum.lt, h.map.lt⟩
theorem IsM.keep (h : IsM w b p tb mb gp x fx M) {L : List Nat} (hm : Mods L w w1) (hb : b ∉ L ∧ tb ∉ L ∧ mb ∉ L) (hg : ∀ g ∈ gp, g ∉ L) (hf : ∀ k, k < 2 → ∀ g ∈ fx k, g ∉ L) : IsM w1 b p tb mb gp x fx M :=
 ⟨Blk.keep h.blk hm hb.1, h.sum.keep hm hb.2.1, h.map.keep hm hb.2.2, h.nd, h.pair.keep hm hg hf, h.freeG, h.freeF⟩
theorem IsM.still (h : IsM w b p tb mb gp x fx M) (hm : Mods [] w w1) : IsM w1 b p tb mb gp x fx M := h.keep hm (by simp) (by simp) (by simp)
theorem IsM.pairTo (h : IsM w b p tb mb gp x fx M) {P' : Pr} (g : PairTo w w1 p gp gp1 x fx fx1 P') : MTo w w1 b p tb mb gp gp1 x fx fx1 { M with P := P' } := by
 obtain ⟨o1, o2, o3⟩ := h.off
 obtain ⟨l1, l2, l3⟩ := h.lt
 refine ⟨⟨Blk.keep h.blk g.mods o1, h.sum.keep g.mods o2, h.map.keep g.mods o3, h.nd, g.pair, fun z hz => ?_, fun k hk z hz => ?_⟩, g.mods.mono (fun k hk => List.mem_cons_of_mem _ (List.mem_cons_of_mem _ hk)), g.newF, g.newG⟩
 ·rcases g.newG z hz with h1 | h1
  ·exact h.freeG z h1
  ·exact ⟨by omega, by omega, by omega⟩
 ·rcases g.newF k hk z hz with h1 | h1
  ·exact h.freeF k hk z h1
  ·exact ⟨by omega, by omega, by omega⟩
theorem MTo.refl (h : IsM w b p tb mb gp x fx M) : MTo w w b p tb mb gp gp x fx fx M := ⟨h, Mods.refl _ _, fun _ _ _ hg => .inl hg, fun _ hg => .inl hg⟩
theorem MTo.still (h : IsM w b p tb mb gp x fx M) (hm : Mods [] w w1) : MTo w w1 b p tb mb gp gp x fx fx M := ⟨h.still hm, hm.mono (by simp), fun _ _ _ hg => .inl hg, fun _ hg => .inl hg⟩
theorem MTo.trans (h : MTo W w1 b p tb mb gp gp1 x fx fx1 M1) (g : MTo w1 w2 b p tb mb gp1 gp2 x fx1 fx2 M2) : MTo W w2 b p tb mb gp gp2 x fx fx2 M2 := by
 have hs := h.mods.size
 refine ⟨g.is, h.mods.trans g.mods (fun k hk => ?_), fun k hk z hz => ?_, fun z hz => ?_⟩
 ·rcases List.mem_cons.1 hk with rfl | hk
  ·exact .inl (List.mem_cons_self ..)
  ·rcases List.mem_cons.1 hk with rfl | hk
   ·exact .inl (List.mem_cons_of_mem _ (List.mem_cons_self ..))
   ·rcases List.mem_cons.1 hk with rfl | hk
    ·exact .inl (List.mem_cons_of_mem _ (List.mem_cons_of_mem _ (List.mem_cons_self ..)))
    ·rcases List.mem_append.1 hk with hk | hk
     ·exact (h.newF 0 (by decide) k hk).imp (fun q => List.mem_cons_of_mem _ (List.mem_cons_of_mem _ (List.mem_cons_of_mem _ (List.mem_append_left _ q)))) id
     ·exact (h.newF 1 (by decide) k hk).imp (fun q => List.mem_cons_of_mem _ (List.mem_cons_of_mem _ (List.mem_cons_of_mem _ (List.mem_append_right _ q)))) id
 ·rcases g.newF k hk z hz with h1 | h1
  ·exact h.newF k hk z h1
  ·exact .inr (by omega)
 ·rcases g.newG z hz with h1 | h1
  ·exact h.newG z h1
  ·exact .inr (by omega)
theorem MTo.tr (h : MTo W w1 b p tb mb gp gp1 x fx fx1 M1) (hm : Mods [] w1 w2) : MTo W w2 b p tb mb gp gp1 x fx fx1 M1 := h.trans (MTo.still h.is hm)
theorem IsM.addBad (h : IsM w b p tb mb gp x fx M) (a : Nat × Nat) :
  ∃ w1, (Instr.mapUpdate 116 (.map (some mb)) (kvPl a) (.bool true)).run Tryz.prog w = .ok () w1 ∧ MTo w w1 b p tb mb gp gp x fx fx { M with bl := addB M.bl a } := by
 obtain ⟨w1, h1, h2, h3, _⟩ := h.map.updateL place_law Tryz.underlying116 a (.bool true)
 obtain ⟨n1, n2, n3, n4, n5, n6⟩ := h.ne
 rw [badF_some, ← addB_len, badF_put] at h2
 refine ⟨w1, h1, ⟨⟨Blk.keep h.blk h3 (by simpa using n2), h.sum.keep h3 (by simpa using n3), h2, addB_nodup h.nd a, h.pair.keep h3 (fun g hg hx => (h.freeG g hg).2.2 (List.mem_singleton.1 hx)) (fun k hk g hg hx => (h.freeF k hk g hg).2.2 (List.mem_singleton.1 hx)), h.freeG, h.freeF⟩, h3.mono (by simp), fun _ _ _ hg => .inl hg, fun _ hg => .inl hg⟩⟩
theorem IsM.remBad (h : IsM w b p tb mb gp x fx M) (a : Nat × Nat) :
  ∃ w1, (∀ ty, (Builtin.delete_ #[116, 344] ty #[.map (some mb), kvPl a]).run Tryz.prog w = .ok (.tuple #[]) w1) ∧ MTo w w1 b p tb mb gp gp x fx fx { M with bl := remB M.bl a } := by
 obtain ⟨w1, h1, h2, h3, _⟩ := h.map.deleteL place_law Tryz.underlying116 a
 obtain ⟨n1, n2, n3, n4, n5, n6⟩ := h.ne
 rw [badF_some, ← remB_len h.nd, badF_del] at h2
 refine ⟨w1, h1, ⟨⟨Blk.keep h.blk h3 (by simpa using n2), h.sum.keep h3 (by simpa using n3), h2, remB_nodup h.nd a, h.pair.keep h3 (fun g hg hx => (h.freeG g hg).2.2 (List.mem_singleton.1 hx)) (fun k hk g hg hx => (h.freeF k hk g hg).2.2 (List.mem_singleton.1 hx)), h.freeG, h.freeF⟩, h3.mono (by simp), fun _ _ _ hg => .inl hg, fun _ hg => .inl hg⟩⟩
end
end Go.Proofs.YtkjpdfomppjiiaaGreatDoor
/- Sums of texts that differ in one byte; which images meet what is known of a block. -/
namespace Go.Proofs.YtkjpdfomppjiiaaGreatDoor

def ptrOf (size : Nat) (h : EHead) (p : List UInt8) : PtrE := ⟨h.addr, h.gen, crcOn 0 (bareL size h p)⟩
theorem seal_sum {size : Nat} {h : EHead} {p : List UInt8} (hs : sizedE size = true) (hr : h.right = true) (hg : h.gen < 18446744073709551616) (hp : p.length + 24 ≤ size) : eSumOf (sealL size h p) = crcOn 0 (bareL size h p) :=
 (parts_with hs hr hg hp (crcOn_lt' 0 (bareL size h p))).2.2.2.2
theorem seal_meets {size : Nat} {h : EHead} {p : List UInt8} (hs : sizedE size = true) (hr : h.right = true) (hg : h.gen < 18446744073709551616) (hp : p.length + 24 ≤ size) : meetsL (ptrOf size h p) (sealL size h p) = true := by
 unfold meetsL
 rw [open_seal hs hr hg hp]
 simp [ptrOf, seal_sum hs hr hg hp]
theorem meets_none {q : PtrE} {x : List UInt8} (h : openL x = none) : meetsL q x = false := by unfold meetsL; rw [h]
end Go.Proofs.YtkjpdfomppjiiaaGreatDoor
/- The mirror: Meets; check, sized, put. -/
namespace Go.Proofs.YtkjpdfomppjiiaaGreatDoor
open Go.RowKit

def ptrV (p : PtrE) : Value := .agg #[.int .i64 p.addr, .int .u64 (p.gen : Nat), .int .u32 (p.sum : Nat)]
theorem ptr_eq (a b g h s t : Int) (w : World) : (binOp .eql 79 (.agg #[.int .i64 a, .int .u64 g, .int .u32 s]) (.agg #[.int .i64 b, .int .u64 h, .int .u32 t])).run Tryz.prog w = .ok (.bool (decide (a = b) && decide (g = h) && decide (s = t))) w := by
 by_cases h1 : a = b
 ·by_cases h2 : g = h
  ·by_cases h3 : s = t
   ·subst h1; subst h2; subst h3; go_simp
   ·subst h1; subst h2; go_simp
  ·subst h1; go_simp
 ·go_simp
set_option maxRecDepth 100000 in
set_option maxHeartbeats 3200000 in
theorem eMeets_any {W : World} {tb : Nat} (hT : Blk W tb 218 sumRow) (p : PtrE) (x : ByteArray) :
  Calls Tryz.prog 170 #[ptrV p, .pointer (some ⟨tb, 0, none⟩), .string x] W fun e w' => e = .returned (.bool (meetsL p x.toList)) ∧ Mods [] W w' := by
 obtain ⟨a, g, s⟩ := p
 unfold ptrV
 simp only
 obtain ⟨w1, hw1⟩ : ∃ w1, W.alloc (.cells #[.int .i64 a, .int .u64 (g : Nat), .int .u32 (s : Nat)] 79) = w1 := ⟨_, rfl⟩
 have hb1 : Blk w1 W.heap.size 79 [.int .i64 a, .int .u64 (g : Nat), .int .u32 (s : Nat)] := by rw [← hw1]; exact Blk.new W 79 _
 have hm1 : Mods [] W w1 := by rw [← hw1]; exact (Mods.refl _ _).alloc _
 have HB1 := Lib.hid hb1
 have HM1 := Lib.hid hm1
 have cOpen := Lib.hid (fun (w : World) (hm : Mods [] W w) => eOpen_any (hT.keep hm (by simp)) x)
 cases ho : openL x.toList with
 | none =>
  rw [meets_none ho]
  have cO : Hid (∀ w, Mods [] W w → Calls Tryz.prog 122 #[.pointer (some ⟨tb, 0, none⟩), .string x] w fun e w' => ∃ en : Nat, e = .returned (.tuple #[.agg #[.int .u8 0, .int .i64 0, .int .u64 0], .string ⟨#[]⟩, .int .i64 (en : Nat)]) ∧ ¬ (en : Int) = 0 ∧ Hid (Mods [] w w')) := Lib.hid (fun w hm => (cOpen.out w hm).mono fun e w' ⟨hv, pl, en, h1, h2, h3⟩ => by
   rw [ho] at h2
   obtain ⟨rfl, rfl, h4⟩ := h2
   exact ⟨en, h1, by omega, Lib.hid h3⟩)
  clear hb1 hm1 cOpen hT ho
  go_enter Tryz.func170, Tryz.ntmps170
  go_wp2_with (go_at_call 122; refine (cO.out _ HM1.out).mono ?_; rintro e w2 ⟨en, rfl, hen, HM2⟩)
  go_ret
  exact ⟨rfl, (HM1.out.trans HM2.out (by simp)).alloc _⟩
 | some hp =>
  obtain ⟨h, pl⟩ := hp
  have cP := Lib.hid (fun w => eParts_any (W := w) x)
  obtain ⟨hpt, hhd, hpy, _⟩ := open_some ho
  rw [if_pos hpt, ← hhd, ← hpy] at cP
  obtain ⟨sm, hsm⟩ : ∃ sm, eSumOf x.toList = sm := ⟨_, rfl⟩
  have hme : meetsL ⟨a, g, s⟩ x.toList = (decide (h.addr = a) && decide ((h.gen : Int) = (g : Int)) && decide ((sm : Int) = (s : Int))) := by
   unfold meetsL
   rw [ho, hsm]
   simp only
   congr 1
   ·congr 1
    rw [decide_eq_decide]; omega
   ·rw [decide_eq_decide]; omega
  rw [hme]
  rw [hsm] at cP
  have cO : Hid (∀ w, Mods [] W w → Calls Tryz.prog 122 #[.pointer (some ⟨tb, 0, none⟩), .string x] w fun e w' => e = .returned (.tuple #[headV h, .string (bA pl), .int .i64 0]) ∧ Hid (Mods [] w w')) := Lib.hid (fun w hm => (cOpen.out w hm).mono fun e w' ⟨hv, pl', en, h1, h2, h3⟩ => by
   rw [ho] at h2
   obtain ⟨rfl, rfl, rfl⟩ := h2
   exact ⟨h1, Lib.hid h3⟩)
  unfold headV at cO cP
  have he := fun w => ptr_eq h.addr a (h.gen : Int) (g : Int) (sm : Int) (s : Int) w
  generalize h.addr = ha at *
  generalize (h.gen : Int) = hg at *
  generalize (h.kind : Int) = hk at *
  generalize bA pl = q at *
  generalize (sm : Int) = sm' at *
  clear hb1 hm1 cOpen hT ho hpt hhd hpy hme hsm
  go_enter Tryz.func170, Tryz.ntmps170
  go_wp2_with (first | (go_at_call 122; refine (cO.out _ HM1.out).mono ?_; rintro e w2 ⟨rfl, HM2⟩; have hb2 := Blk.new w2 211 [.int .u8 hk, .int .i64 ha, .int .u64 hg]; have hb1 := ((HB1.out.keep HM2.out (by simp)).alloc (.cells #[.int .u8 hk, .int .i64 ha, .int .u64 hg] 211))) | (go_at_call 172; refine (cP.out _).mono ?_; rintro e w3 ⟨rfl, hm3⟩; have hb3 := (hb2.keep hm3 (by simp)).alloc (.cells #[.int .u8 hk, .int .i64 ha, .int .u64 hg] 211); have z1 := hb3.cell (i := 1) rfl; have z2 := hb3.cell (i := 2) rfl; have hb4 := (hb1.keep hm3 (by simp)).alloc (.cells #[.int .u8 hk, .int .i64 ha, .int .u64 hg] 211); have y0 := hb4.cell (i := 0) rfl; have y1 := hb4.cell (i := 1) rfl; have y2 := hb4.cell (i := 2) rfl))
  go_ret
  exact ⟨rfl, (((HM1.out.trans HM2.out (by simp)).alloc _).trans hm3 (by simp)).alloc _⟩

section
variable {W : World} {b p tb mb : Nat} {gp : List Nat} {x : Nat → Nat} {fx : Nat → List Nat} {P : Pr} {M : Mi} {B z c : Nat}
theorem rRead_m (hp : IsPair W p gp x fx P) (hF : Fine B z c P) (hc : c ≤ 800000) {s : Nat} (hs : s < 2) (i : Int) :
  Calls Tryz.prog 137 #[.pointer (some ⟨p, 0, none⟩), .int .i64 (s : Nat), .int .i64 i] W fun e w' => e = .returned (.tuple #[.string (P.read s i).1, .int .i64 ((P.read s i).2 : Nat)]) ∧ Hid (PairTo W w' p gp gp x fx fx P) :=
 (gRead hp hs i (fun d hd => by have := (hF.on d hd).few; omega)).mono fun e w' ⟨h1, h2, h3⟩ => ⟨h1, Lib.hid ⟨h2.out, h3.out.mono (fun _ hk => List.mem_cons_of_mem _ hk), fun _ _ _ hg => .inl hg, fun _ hg => .inl hg⟩⟩
theorem rWrite_m (hp : IsPair W p gp x fx P) (hF : Fine B z c P) (hc : c ≤ 800000) {s : Nat} (hs : s < 2) (i : Int) (img : ByteArray) :
  Calls Tryz.prog 218 #[.pointer (some ⟨p, 0, none⟩), .int .i64 (s : Nat), .int .i64 i, .string img] W fun e w' => ∃ gp' fx', e = .returned (.int .i64 ((Pr.write (P.n + 1) P s i img).1 : Nat)) ∧ Hid (PairTo W w' p gp gp' x fx fx' (Pr.write (P.n + 1) P s i img).2) := by
 have hn : P.n ≤ 32 := hp.fit.2.1
 have hc' : ∀ j, j < 2 → (P.dev j).cache.length + 2 * (P.n + 1) + 10 < 1000000 := fun k hk => by have := (hF.on k hk).few; omega
 rcases two_cases hs with rfl | rfl
 ·exact rWrite_0 hp i img (hF.spares 0 hs) (P.n + 1) (by rw [hF.spares 0 hs]; omega) hc'
 ·exact rWrite_1 hp i img (hF.spares 1 hs) (P.n + 1) (by rw [hF.spares 1 hs]; omega) hc'
theorem rFlush_m (hp : IsPair W p gp x fx P) (hF : Fine B z c P) (hc : c ≤ 800000) {s : Nat} (hs : s < 2) :
  Calls Tryz.prog 101 #[.pointer (some ⟨p, 0, none⟩), .int .i64 (s : Nat)] W fun e w' => ∃ fx', e = .returned (.int .i64 ((P.flush s).1 : Nat)) ∧ Hid (PairTo W w' p gp gp x fx fx' (P.flush s).2) := by
 have hc' : (P.dev s).cache.length < 1000000 := by have := (hF.on s hs).few; omega
 have key : Calls Tryz.prog 101 #[.pointer (some ⟨p, 0, none⟩), .int .i64 (s : Nat)] W fun e w' => ∃ fp', e = .returned (.int .i64 ((P.flush s).1 : Nat)) ∧ Hid (IsPair w' p gp x (upd fx s fp') (P.flush s).2) ∧ Hid (DevTo W w' (x s) (fx s) fp' (P.dev s).flush.2) := by
  rcases two_cases hs with rfl | rfl
  ·exact rFlush_0 hp hc'
  ·exact rFlush_1 hp hc'
 refine key.mono fun e w' ⟨fp', h1, h2, h3⟩ => ⟨upd fx s fp', h1, ?_⟩
 have hsz : (P.dev s).flush.2.size = (P.dev s).size ∧ (P.dev s).flush.2.sectors = (P.dev s).sectors := by
  obtain ⟨k1, k2, _⟩ := Dev.burn_same (P.dev s)
  unfold Dev.flush
  split
  ·exact ⟨rfl, rfl⟩
  ·split
   ·exact ⟨k2, k1⟩
   ·exact ⟨k2, k1⟩
 exact Lib.hid (PairTo.dev hp hs h3.out hsz)

theorem mCheck_m (h : IsM W b p tb mb gp x fx M) (hF : Fine B z c M.P) (i : Int) :
  Calls Tryz.prog 119 #[.pointer (some ⟨b, 0, none⟩), .int .i64 i] W fun e w' => e = .returned (.int .i64 (if 0 ≤ i ∧ i < (B : Int) then 0 else 3)) ∧ Hid (Mods [] W w') := by
 obtain ⟨T, hT⟩ : ∃ T, M.P.tab 0 = T := ⟨_, rfl⟩
 have hB : T.blocks = B := by rw [← hT]; exact hF.blocks 0 (by decide)
 have cTb := rTable_s h.pair (s := 0) (by decide)
 rw [hT] at cTb
 replace cTb := Lib.hid cTb
 have cBl := Lib.hid (fun (w : World) (A : Option Addr) (k : Nat) => show Calls Tryz.prog 32 #[.agg #[.int .i64 (T.blocks : Nat), .int .i64 (T.spares : Nat), .slice A T.moved.length k]] w fun e w' => e = .returned (.int .i64 (B : Nat)) ∧ Mods [] w w' from by
  have h1 := tBlocks_any (W := w) T (.slice A T.moved.length k)
  rw [hB] at h1 ⊢; unfold tabV at h1; rw [hB] at h1; exact h1)
 have q0 : W.cell? ⟨b, 0, none⟩ = some (.pointer (some ⟨p, 0, none⟩)) := Blk.cell h.blk (i := 0) rfl
 clear h hF hT hB
 by_cases h0 : i < 0
 ·rw [if_neg (by omega)]
  go_enter Tryz.func119, Tryz.ntmps119
  go_wp2_with fail
  go_ret
  exact ⟨rfl, Lib.hid (Mods.refl _ _)⟩
 ·by_cases h1 : (B : Int) ≤ i
  ·rw [if_neg (by omega)]
   go_enter Tryz.func119, Tryz.ntmps119
   go_wp2_with (first | (go_at_call 31; refine cTb.out.mono ?_; rintro e w1 ⟨A, c, rfl, HV, _, HM1⟩) | (go_at_call 32; refine (cBl.out _ _ _).mono ?_; rintro e w2 ⟨rfl, hm2⟩; have HM2 := Lib.hid hm2; clear hm2))
   go_ret
   exact ⟨rfl, Lib.hid (HM1.out.trans HM2.out (by simp))⟩
  ·rw [if_pos (by omega)]
   have h2 : i < (B : Int) := by omega
   go_enter Tryz.func119, Tryz.ntmps119
   go_wp2_with (first | (go_at_call 31; refine cTb.out.mono ?_; rintro e w1 ⟨A, c, rfl, HV, _, HM1⟩) | (go_at_call 32; refine (cBl.out _ _ _).mono ?_; rintro e w2 ⟨rfl, hm2⟩; have HM2 := Lib.hid hm2; clear hm2))
   go_ret
   exact ⟨rfl, Lib.hid (HM1.out.trans HM2.out (by simp))⟩
def sizedM (B z : Nat) (i : Int) (k : Nat) : Nat := if 0 ≤ i ∧ i < (B : Int) then (if k = z then 0 else 2) else 3
theorem mSized_m (h : IsM W b p tb mb gp x fx M) (hF : Fine B z c M.P) (i : Int) (img : ByteArray) :
  Calls Tryz.prog 142 #[.pointer (some ⟨b, 0, none⟩), .int .i64 i, .string img] W fun e w' => e = .returned (.int .i64 (sizedM B z i img.size : Nat)) ∧ Hid (Mods [] W w') := by
 have cCk := Lib.hid (mCheck_m h hF i)
 have cDv := Lib.hid (fun (w : World) (hm : Mods [] W w) => rDevice_0 (h.pair.keep0 hm))
 have cSh := Lib.hid (fun (w : World) (hm : Mods [] W w) => dShape_any ((h.pair.keep0 hm).dev 0 (by decide)))
 rw [(hF.on 0 (by decide)).size] at cSh
 have hfd := fun w => shape_size (M.P.dev 0).sectors z w
 have HQ : Hid (∀ w, Mods [] W w → w.cell? ⟨b, 0, none⟩ = some (.pointer (some ⟨p, 0, none⟩))) := Lib.hid (fun w hm => Blk.cell (h.still hm).blk (i := 0) rfl)
 unfold sizedM
 generalize ((M.P.dev 0).sectors : Int) = sc at *
 clear h hF
 by_cases h0 : 0 ≤ i ∧ i < (B : Int)
 ·rw [if_pos h0]
  rw [if_pos h0] at cCk
  obtain ⟨k, hk⟩ : ∃ k, img.size = k := ⟨_, rfl⟩
  by_cases hz : k = z
  ·subst hz
   rw [hk, if_pos rfl]
   go_enter Tryz.func142, Tryz.ntmps142
   go_wp2_with (first | (go_at_call 119; refine cCk.out.mono ?_; rintro e w1 ⟨rfl, HM1⟩; have q0 := HQ.out _ HM1.out) | (go_at_call 108; refine (cDv.out _ HM1.out).mono ?_; rintro e w2 ⟨rfl, rfl⟩) | (go_at_call 53; refine (cSh.out _ HM1.out).mono ?_; rintro e w3 ⟨rfl, hm3⟩; have HM3 := Lib.hid hm3; clear hm3))
   go_ret
   exact ⟨rfl, Lib.hid (HM1.out.trans HM3.out (by simp))⟩
  ·rw [hk, if_neg hz]
   have hz2 : ¬ (k : Int) = (z : Int) := by omega
   go_enter Tryz.func142, Tryz.ntmps142
   go_wp2_with (first | (go_at_call 119; refine cCk.out.mono ?_; rintro e w1 ⟨rfl, HM1⟩; have q0 := HQ.out _ HM1.out) | (go_at_call 108; refine (cDv.out _ HM1.out).mono ?_; rintro e w2 ⟨rfl, rfl⟩) | (go_at_call 53; refine (cSh.out _ HM1.out).mono ?_; rintro e w3 ⟨rfl, hm3⟩; have HM3 := Lib.hid hm3; clear hm3))
   go_ret
   exact ⟨rfl, Lib.hid (HM1.out.trans HM3.out (by simp))⟩
 ·rw [if_neg h0]
  rw [if_neg h0] at cCk
  go_enter Tryz.func142, Tryz.ntmps142
  go_wp2_with (go_at_call 119; refine cCk.out.mono ?_; rintro e w1 ⟨rfl, HM1⟩)
  go_ret
  exact ⟨rfl, HM1⟩
set_option maxRecDepth 100000 in
set_option maxHeartbeats 3200000 in
theorem mPut_m (h : IsM W b p tb mb gp x fx M) (hF : Fine B z c M.P) (hc : c ≤ 800000) {s : Nat} (hs : s < 2) (i : Nat) (img : ByteArray) :
  Calls Tryz.prog 171 #[.pointer (some ⟨b, 0, none⟩), .int .i64 (s : Nat), .int .i64 (i : Nat), .string img] W fun e w' => ∃ gp' fx', e = .returned (.int .i64 ((M.put s i img).1 : Nat)) ∧ Hid (MTo W w' b p tb mb gp gp' x fx fx' (M.put s i img).2) := by
 have cW := Lib.hid (rWrite_m h.pair hF hc hs (i : Int) img)
 have q0 : W.cell? ⟨b, 0, none⟩ = some (.pointer (some ⟨p, 0, none⟩)) := Blk.cell h.blk (i := 0) rfl
 unfold Mi.put
 simp only
 obtain ⟨R, hR⟩ : ∃ R, Pr.write (M.P.n + 1) M.P s (i : Int) img = R := ⟨_, rfl⟩
 obtain ⟨k, P'⟩ := R
 rw [hR] at cW ⊢
 have HT := Lib.hid (fun (w1 : World) (gp' : List Nat) (fx' : Nat → List Nat) (g : PairTo W w1 p gp gp' x fx fx' P') => (h.pairTo g).tr ((Mods.refl [] w1).alloc (.cells #[.int .i64 (s : Nat), .int .i64 (i : Nat)] 344)))
 clear h hF hR
 by_cases k9 : k = 9
 ·subst k9
  rw [if_pos rfl]
  go_enter Tryz.func171, Tryz.ntmps171
  go_wp2_with (go_at_call 218; refine cW.out.mono ?_; rintro e w1 ⟨gp', fx', rfl, HP⟩)
  have hto := HT.out _ _ _ HP.out
  have hbl := Blk.new w1 344 [.int .i64 (s : Nat), .int .i64 (i : Nat)]
  obtain ⟨w2, hw2⟩ : ∃ w2, w1.alloc (.cells #[.int .i64 (s : Nat), .int .i64 (i : Nat)] 344) = w2 := ⟨_, rfl⟩
  rw [show ([Value.int .i64 (s : Nat), .int .i64 (i : Nat)] : List Value).toArray = #[.int .i64 (s : Nat), .int .i64 (i : Nat)] from rfl, hw2] at hbl
  rw [hw2] at hto ⊢
  obtain ⟨w3, hupd, h3⟩ := ((hto.tr ((Mods.refl [] w2).drew)).is).addBad (s, i)
  have q2 : w2.cell? ⟨b, 2, none⟩ = some (.map (some mb)) := Blk.cell hto.is.blk (i := 2) rfl
  have y0 := hbl.cell (i := 0) rfl
  have y1 := hbl.cell (i := 1) rfl
  have HR := Lib.hid ((hto.tr ((Mods.refl [] w2).drew)).trans h3)
  unfold kvPl at hupd
  clear hto hbl h3 hw2 HP HT
  go_region
  all_goals go_wp2_with fail
  all_goals go_ret
  all_goals first | exact ⟨gp', fx', rfl, HR⟩ | exact ⟨rfl, gp', fx', HR⟩
 ·rw [if_neg k9]
  have k9' : ¬ (k : Int) = 9 := by omega
  by_cases k0 : k = 0
  ·subst k0
   rw [if_pos rfl]
   go_enter Tryz.func171, Tryz.ntmps171
   go_wp2_with (go_at_call 218; refine cW.out.mono ?_; rintro e w1 ⟨gp', fx', rfl, HP⟩)
   have hto := HT.out _ _ _ HP.out
   have hbl := Blk.new w1 344 [.int .i64 (s : Nat), .int .i64 (i : Nat)]
   obtain ⟨w2, hw2⟩ : ∃ w2, w1.alloc (.cells #[.int .i64 (s : Nat), .int .i64 (i : Nat)] 344) = w2 := ⟨_, rfl⟩
   rw [show ([Value.int .i64 (s : Nat), .int .i64 (i : Nat)] : List Value).toArray = #[.int .i64 (s : Nat), .int .i64 (i : Nat)] from rfl, hw2] at hbl
   rw [hw2] at hto ⊢
   obtain ⟨w3, hdel, h3⟩ := ((hto.tr ((Mods.refl [] w2).drew)).is).remBad (s, i)
   have q2 : w2.cell? ⟨b, 2, none⟩ = some (.map (some mb)) := Blk.cell hto.is.blk (i := 2) rfl
   have y0 := hbl.cell (i := 0) rfl
   have y1 := hbl.cell (i := 1) rfl
   have HR := Lib.hid ((hto.tr ((Mods.refl [] w2).drew)).trans h3)
   unfold kvPl at hdel
   clear hto hbl h3 hw2 HP HT
   go_region
   all_goals go_wp2_with fail
   all_goals go_ret
   all_goals first | exact ⟨gp', fx', rfl, HR⟩ | exact ⟨rfl, gp', fx', HR⟩
  ·rw [if_neg k0]
   have k0' : ¬ (k : Int) = 0 := by omega
   go_enter Tryz.func171, Tryz.ntmps171
   go_wp2_with (go_at_call 218; refine cW.out.mono ?_; rintro e w1 ⟨gp', fx', rfl, HP⟩)
   go_ret
   exact ⟨gp', fx', rfl, Lib.hid (HT.out _ _ _ HP.out)⟩
end
end Go.Proofs.YtkjpdfomppjiiaaGreatDoor
/- The mirror: none, Write, Flush, repair. -/
namespace Go.Proofs.YtkjpdfomppjiiaaGreatDoor
open Go.RowKit

section
variable {W : World} {b p tb mb : Nat} {gp : List Nat} {x : Nat → Nat} {fx : Nat → List Nat} {M : Mi} {B z c : Nat}
theorem Mi.put_fine (hF : Fine B z c M.P) (hn : M.P.n ≤ 32) {s : Nat} (hs : s < 2) (i : Nat) (img : ByteArray) : Fine B z (c + 66) (M.put s i img).2.P ∧ Alike M.P (M.put s i img).2.P ∧ (M.put s i img).1 ≠ 6 := by
 obtain ⟨f, a, e⟩ := Fine.write (M.P.n + 1) hF hs (i : Int) img
 exact ⟨f.mono (by omega), a, e⟩
theorem IsM.n_le {w : World} (h : IsM w b p tb mb gp x fx M) : M.P.n ≤ 32 := h.pair.fit.2.1
theorem mNone_g0 (h : IsM W b p tb mb gp x fx M) (h0 : (M.P.dev 0).gone = false) (o : Int) :
  Calls Tryz.prog 102 #[.pointer (some ⟨b, 0, none⟩), .int .i64 o] W fun e w' => e = .returned (.int .i64 o) ∧ W = w' := by
 have c := rAlive_0 h.pair
 rw [h0] at c
 have cA0 := Lib.hid c
 have q0 : W.cell? ⟨b, 0, none⟩ = some (.pointer (some ⟨p, 0, none⟩)) := Blk.cell h.blk (i := 0) rfl
 clear h c h0
 go_enter Tryz.func102, Tryz.ntmps102
 go_wp2_with fail
 refine wp_loop_rounds 1 ?_
 rw [rounds_succ]
 go_wp2_with (go_at_call 56; refine cA0.out.mono ?_; rintro e w' ⟨rfl, rfl⟩)
 go_ret
 exact ⟨rfl, rfl⟩
theorem mNone_g1 (h : IsM W b p tb mb gp x fx M) (h0 : (M.P.dev 0).gone = true) (g1 : Bool) (h1 : (M.P.dev 1).gone = g1) (o : Int) :
  Calls Tryz.prog 102 #[.pointer (some ⟨b, 0, none⟩), .int .i64 o] W fun e w' => e = .returned (.int .i64 (if g1 = true then 8 else o)) ∧ W = w' := by
 have c := rAlive_0 h.pair
 rw [h0] at c
 have d := rAlive_1 h.pair
 rw [h1] at d
 have cA0 := Lib.hid c
 have cA1 := Lib.hid d
 have q0 : W.cell? ⟨b, 0, none⟩ = some (.pointer (some ⟨p, 0, none⟩)) := Blk.cell h.blk (i := 0) rfl
 clear h c d h0 h1
 cases g1 with
 | false =>
  rw [if_neg (by decide)]
  go_enter Tryz.func102, Tryz.ntmps102
  go_wp2_with fail
  refine wp_loop_rounds 2 ?_
  rw [rounds_succ]
  go_wp2_with (go_at_call 56; refine cA0.out.mono ?_; rintro e w' ⟨rfl, rfl⟩)
  rw [rounds_succ]
  go_wp2_with (go_at_call 56; refine cA1.out.mono ?_; rintro e w' ⟨rfl, rfl⟩)
  go_ret
  exact ⟨rfl, rfl⟩
 | true =>
  rw [if_pos rfl]
  go_enter Tryz.func102, Tryz.ntmps102
  go_wp2_with fail
  refine wp_loop_rounds 3 ?_
  rw [rounds_succ]
  go_wp2_with (go_at_call 56; refine cA0.out.mono ?_; rintro e w' ⟨rfl, rfl⟩)
  rw [rounds_succ]
  go_wp2_with (go_at_call 56; refine cA1.out.mono ?_; rintro e w' ⟨rfl, rfl⟩)
  rw [rounds_succ]
  go_wp2_with fail
  go_ret
  exact ⟨rfl, rfl⟩
theorem mNone_m (h : IsM W b p tb mb gp x fx M) (o : Nat) :
  Calls Tryz.prog 102 #[.pointer (some ⟨b, 0, none⟩), .int .i64 (o : Nat)] W fun e w' => e = .returned (.int .i64 (M.none o : Nat)) ∧ W = w' := by
 unfold Mi.none
 cases h0 : (M.P.dev 0).gone with
 | false => exact mNone_g0 h h0 o
 | true =>
  have h1 := mNone_g1 h h0 (M.P.dev 1).gone rfl (o : Int)
  cases hg : (M.P.dev 1).gone with
  | false => rw [hg] at h1; exact h1
  | true => rw [hg] at h1; exact h1
set_option maxRecDepth 100000 in
set_option maxHeartbeats 3200000 in
theorem mWrite_m (h : IsM W b p tb mb gp x fx M) (hF : Fine B z c M.P) (hc : c ≤ 700000) {i : Nat} (hi : i < B) {img : ByteArray} (hx : img.size = z) :
  Calls Tryz.prog 131 #[.pointer (some ⟨b, 0, none⟩), .int .i64 (i : Nat), .string img] W fun e w' => ∃ gp' fx', e = .returned (.int .i64 ((M.write i img).1 : Nat)) ∧ Hid (MTo W w' b p tb mb gp gp' x fx fx' (M.write i img).2) := by
 have cS := Lib.hid (mSized_m h hF (i : Int) img)
 have hsz : sizedM B z (i : Int) img.size = 0 := by unfold sizedM; rw [if_pos (by omega), if_pos hx]
 rw [hsz] at cS
 obtain ⟨f1, a1, e1⟩ := Mi.put_fine hF h.n_le (s := 0) (by decide) i img
 obtain ⟨f2, a2, e2⟩ := Mi.put_fine f1 (by rw [a1.n]; exact h.n_le) (s := 1) (by decide) i img
 have cP0 := Lib.hid (fun (w : World) (hm : Mods [] W w) => show Calls Tryz.prog 171 #[.pointer (some ⟨b, 0, none⟩), .int .i64 0, .int .i64 (i : Nat), .string img] w _ from mPut_m (h.still hm) hF (by omega) (s := 0) (by decide) i img)
 have cP1 := Lib.hid (fun (w : World) (gp1 : List Nat) (fx1 : Nat → List Nat) (h1 : IsM w b p tb mb gp1 x fx1 (M.put 0 i img).2) => show Calls Tryz.prog 171 #[.pointer (some ⟨b, 0, none⟩), .int .i64 1, .int .i64 (i : Nat), .string img] w _ from mPut_m h1 f1 (by omega) (s := 1) (by decide) i img)
 have HS := Lib.hid (fun (w : World) (hm : Mods [] W w) => MTo.still h hm)
 unfold Mi.write
 simp only
 obtain ⟨R1, hR1⟩ : ∃ R, M.put 0 i img = R := ⟨_, rfl⟩
 obtain ⟨k0, M1⟩ := R1
 rw [hR1] at cP0 cP1 f1 a1 e1 f2 a2 e2 ⊢
 simp only at cP0 cP1 f1 a1 e1 f2 a2 e2 ⊢
 obtain ⟨R2, hR2⟩ : ∃ R, M1.put 1 i img = R := ⟨_, rfl⟩
 obtain ⟨k1, M2⟩ := R2
 rw [hR2] at cP1 f2 a2 e2 ⊢
 simp only at cP1 f2 a2 e2 ⊢
 have cN := Lib.hid (fun (w : World) (gp1 : List Nat) (fx1 : Nat → List Nat) (h1 : IsM w b p tb mb gp1 x fx1 M2) => show Calls Tryz.prog 102 #[.pointer (some ⟨b, 0, none⟩), .int .i64 7] w _ from mNone_m h1 7)
 have n0 : ¬ (k0 : Int) = 6 := by omega
 have n1 : ¬ (k1 : Int) = 6 := by omega
 clear hR1 hR2 f1 a1 e1 f2 a2 e2 h hF hsz
 by_cases z0 : k0 = 0
 ·rw [if_pos (.inl z0)]
  subst z0
  by_cases z1 : k1 = 0
  ·subst z1
   go_enter Tryz.func131, Tryz.ntmps131
   go_wp2_with (go_at_call 142; refine cS.out.mono ?_; rintro e w1 ⟨rfl, HM1⟩)
   refine wp_loop_rounds 3 ?_
   rw [rounds_succ]
   go_wp2_with (go_at_call 171; refine (cP0.out _ HM1.out).mono ?_; rintro e w2 ⟨gp1, fx1, rfl, H1⟩)
   rw [rounds_succ]
   go_wp2_with (go_at_call 171; refine (cP1.out _ _ _ H1.out.is).mono ?_; rintro e w3 ⟨gp2, fx2, rfl, H2⟩)
   rw [rounds_succ]
   go_wp2_with fail
   go_ret
   exact ⟨gp2, fx2, rfl, Lib.hid (((HS.out _ HM1.out).trans H1.out).trans H2.out)⟩
  ·have z1' : ¬ (k1 : Int) = 0 := by omega
   go_enter Tryz.func131, Tryz.ntmps131
   go_wp2_with (go_at_call 142; refine cS.out.mono ?_; rintro e w1 ⟨rfl, HM1⟩)
   refine wp_loop_rounds 3 ?_
   rw [rounds_succ]
   go_wp2_with (go_at_call 171; refine (cP0.out _ HM1.out).mono ?_; rintro e w2 ⟨gp1, fx1, rfl, H1⟩)
   rw [rounds_succ]
   go_wp2_with (go_at_call 171; refine (cP1.out _ _ _ H1.out.is).mono ?_; rintro e w3 ⟨gp2, fx2, rfl, H2⟩)
   rw [rounds_succ]
   go_wp2_with fail
   go_ret
   exact ⟨gp2, fx2, rfl, Lib.hid (((HS.out _ HM1.out).trans H1.out).trans H2.out)⟩
 ·have z0' : ¬ (k0 : Int) = 0 := by omega
  by_cases z1 : k1 = 0
  ·rw [if_pos (.inr z1)]
   subst z1
   go_enter Tryz.func131, Tryz.ntmps131
   go_wp2_with (go_at_call 142; refine cS.out.mono ?_; rintro e w1 ⟨rfl, HM1⟩)
   refine wp_loop_rounds 3 ?_
   rw [rounds_succ]
   go_wp2_with (go_at_call 171; refine (cP0.out _ HM1.out).mono ?_; rintro e w2 ⟨gp1, fx1, rfl, H1⟩)
   rw [rounds_succ]
   go_wp2_with (go_at_call 171; refine (cP1.out _ _ _ H1.out.is).mono ?_; rintro e w3 ⟨gp2, fx2, rfl, H2⟩)
   rw [rounds_succ]
   go_wp2_with fail
   go_ret
   exact ⟨gp2, fx2, rfl, Lib.hid (((HS.out _ HM1.out).trans H1.out).trans H2.out)⟩
  ·rw [if_neg (by omega)]
   have z1' : ¬ (k1 : Int) = 0 := by omega
   go_enter Tryz.func131, Tryz.ntmps131
   go_wp2_with (go_at_call 142; refine cS.out.mono ?_; rintro e w1 ⟨rfl, HM1⟩)
   refine wp_loop_rounds 3 ?_
   rw [rounds_succ]
   go_wp2_with (go_at_call 171; refine (cP0.out _ HM1.out).mono ?_; rintro e w2 ⟨gp1, fx1, rfl, H1⟩)
   rw [rounds_succ]
   go_wp2_with (go_at_call 171; refine (cP1.out _ _ _ H1.out.is).mono ?_; rintro e w3 ⟨gp2, fx2, rfl, H2⟩)
   rw [rounds_succ]
   go_wp2_with (go_at_call 102; refine (cN.out _ _ _ H2.out.is).mono ?_; rintro e w4 ⟨rfl, rfl⟩)
   go_ret
   exact ⟨gp2, fx2, rfl, Lib.hid (((HS.out _ HM1.out).trans H1.out).trans H2.out)⟩
set_option maxHeartbeats 3200000 in
theorem mFlush_m (h : IsM W b p tb mb gp x fx M) (hF : Fine B z c M.P) (hc : c ≤ 800000) :
  Calls Tryz.prog 50 #[.pointer (some ⟨b, 0, none⟩)] W fun e w' => ∃ fx', e = .returned (.int .i64 ((M.flush).1 : Nat)) ∧ Hid (MTo W w' b p tb mb gp gp x fx fx' (M.flush).2) := by
 obtain ⟨f1, a1, e1⟩ := hF.flush (s := 0) (by decide)
 obtain ⟨f2, a2, e2⟩ := f1.flush (s := 1) (by decide)
 have cF0 := Lib.hid (show Calls Tryz.prog 101 #[.pointer (some ⟨p, 0, none⟩), .int .i64 0] W _ from rFlush_m h.pair hF hc (s := 0) (by decide))
 have cF1 := Lib.hid (fun (w : World) (fx1 : Nat → List Nat) (h1 : IsPair w p gp x fx1 (M.P.flush 0).2) => show Calls Tryz.prog 101 #[.pointer (some ⟨p, 0, none⟩), .int .i64 1] w _ from rFlush_m h1 f1 hc (s := 1) (by decide))
 have q0 : W.cell? ⟨b, 0, none⟩ = some (.pointer (some ⟨p, 0, none⟩)) := Blk.cell h.blk (i := 0) rfl
 have HT := Lib.hid (fun (w1 : World) (fx1 : Nat → List Nat) (g : PairTo W w1 p gp gp x fx fx1 (M.P.flush 0).2) => h.pairTo g)
 unfold Mi.flush
 simp only
 obtain ⟨R1, hR1⟩ : ∃ R, M.P.flush 0 = R := ⟨_, rfl⟩
 obtain ⟨k0, P1⟩ := R1
 rw [hR1] at cF0 cF1 f1 a1 e1 f2 a2 e2 HT ⊢
 simp only at cF0 cF1 f1 a1 e1 f2 a2 e2 HT ⊢
 obtain ⟨R2, hR2⟩ : ∃ R, P1.flush 1 = R := ⟨_, rfl⟩
 obtain ⟨k1, P2⟩ := R2
 rw [hR2] at cF1 f2 a2 e2 ⊢
 simp only at cF1 f2 a2 e2 ⊢
 have cN := Lib.hid (fun (w : World) (gp1 : List Nat) (fx1 : Nat → List Nat) (h1 : IsM w b p tb mb gp1 x fx1 { M with P := P2 }) => show Calls Tryz.prog 102 #[.pointer (some ⟨b, 0, none⟩), .int .i64 0] w _ from mNone_m h1 0)
 have n0 : ¬ (k0 : Int) = 6 := by omega
 have n1 : ¬ (k1 : Int) = 6 := by omega
 clear hR1 hR2 f1 a1 e1 f2 a2 e2 h hF
 go_enter Tryz.func50, Tryz.ntmps50
 go_wp2_with fail
 refine wp_loop_rounds 3 ?_
 rw [rounds_succ]
 go_wp2_with (go_at_call 101; refine cF0.out.mono ?_; rintro e w1 ⟨fx1, rfl, H1⟩)
 have ht1 := HT.out _ _ H1.out
 have q1 : w1.cell? ⟨b, 0, none⟩ = some (.pointer (some ⟨p, 0, none⟩)) := Blk.cell ht1.is.blk (i := 0) rfl
 have HT1 := Lib.hid ht1
 clear ht1 q0
 rw [rounds_succ]
 go_wp2_with (go_at_call 101; refine (cF1.out _ _ HT1.out.is.pair).mono ?_; rintro e w2 ⟨fx2, rfl, H2⟩)
 rw [rounds_succ]
 go_wp2_with (go_at_call 102; refine (cN.out _ _ _ (HT1.out.is.pairTo H2.out).is).mono ?_; rintro e w3 ⟨rfl, rfl⟩)
 go_ret
 exact ⟨fx2, rfl, Lib.hid (HT1.out.trans (HT1.out.is.pairTo H2.out))⟩
theorem IsM.more {w : World} (h : IsM w b p tb mb gp x fx M) {q : Int} (hq : q = ((M.reps + 1 : Nat) : Int)) : MTo w (w.setCell ⟨b, 3, none⟩ (.int .i64 q)) b p tb mb gp gp x fx fx { M with reps := M.reps + 1 } := by
 subst hq
 obtain ⟨n1, n2, n3, n4, n5, n6⟩ := h.ne
 have hm : Mods [b] w (w.setCell ⟨b, 3, none⟩ (.int .i64 ((M.reps + 1 : Nat) : Int))) := (Mods.refl _ _).setCell (.inl (by simp)) _
 refine ⟨⟨Blk.set h.blk 3 (.int .i64 ((M.reps + 1 : Nat) : Int)), h.sum.keep hm (by simpa using fun e => n1 e.symm), h.map.keep hm (by simpa using fun e => n2 e.symm), h.nd, h.pair.keep hm (fun g hg hx => (h.freeG g hg).1 (List.mem_singleton.1 hx)) (fun k hk g hg hx => (h.freeF k hk g hg).1 (List.mem_singleton.1 hx)), h.freeG, h.freeF⟩, hm.mono (by simp), fun _ _ _ hg => .inl hg, fun _ hg => .inl hg⟩
theorem Mi.put_reps (M : Mi) (s i : Nat) (img : ByteArray) : (M.put s i img).2.reps = M.reps := rfl
set_option maxHeartbeats 3200000 in
theorem mRepair_m (h : IsM W b p tb mb gp x fx M) (hF : Fine B z c M.P) (hc : c ≤ 700000) (hr : M.reps < 1000000000) {s : Nat} (hs : s < 2) (i : Nat) (img : ByteArray) :
  Calls Tryz.prog 121 #[.pointer (some ⟨b, 0, none⟩), .int .i64 (s : Nat), .int .i64 (i : Nat), .string img] W fun e w' => ∃ gp' fx', e = .returned (.tuple #[.bool (M.repair s i img).1, .int .i64 0]) ∧ Hid (MTo W w' b p tb mb gp gp' x fx fx' (M.repair s i img).2) := by
 obtain ⟨f1, a1, e1⟩ := Mi.put_fine hF h.n_le hs i img
 have cA := rAlive_s h.pair hs
 have cP := Lib.hid (mPut_m h hF (by omega) hs i img)
 have q0 : W.cell? ⟨b, 0, none⟩ = some (.pointer (some ⟨p, 0, none⟩)) := Blk.cell h.blk (i := 0) rfl
 unfold Mi.repair
 cases hg : (M.P.dev s).gone with
 | true =>
  rw [if_pos rfl]
  rw [hg] at cA
  have HS := Lib.hid (MTo.refl h)
  clear h hF cP f1 a1 e1 hg
  go_enter Tryz.func121, Tryz.ntmps121
  go_wp2_with (go_at_call 56; refine cA.mono ?_; rintro e w1 ⟨rfl, rfl⟩)
  go_ret2
  exact ⟨gp, fx, rfl, HS⟩
 | false =>
  rw [if_neg (by decide)]
  rw [hg] at cA
  have hrep := Mi.put_reps M s i img
  simp only
  obtain ⟨R1, hR1⟩ : ∃ R, M.put s i img = R := ⟨_, rfl⟩
  obtain ⟨k, M1⟩ := R1
  rw [hR1] at cP e1 hrep ⊢
  simp only at cP e1 hrep ⊢
  have n0 : ¬ (k : Int) = 6 := by omega
  clear hR1 f1 a1 e1 h hF hg
  by_cases z0 : k = 0
  ·subst z0
   rw [if_pos rfl]
   obtain ⟨q, hq⟩ : ∃ q : Nat, M1.reps = q := ⟨_, rfl⟩
   have hq2 : q < 1000000000 := by omega
   have hw : IntKind.i64.wrap ((q : Int) + 1) = (q : Int) + 1 := by rw [IntKind.wrap_i64]; omega
   go_enter Tryz.func121, Tryz.ntmps121
   go_wp2_with (first | (go_at_call 56; refine cA.mono ?_; rintro e w1 ⟨rfl, rfl⟩) | (go_at_call 171; refine cP.out.mono ?_; rintro e w2 ⟨gp1, fx1, rfl, H1⟩; have q3 : w2.cell? ⟨b, 3, none⟩ = some (.int .i64 (q : Nat)) := (by rw [← hq]; exact Blk.cell H1.out.is.blk (i := 3) rfl); have q3f : w2.frozen? ⟨b, 3, none⟩ = false := Blk.free H1.out.is.blk 3))
   go_ret2
   exact ⟨gp1, fx1, rfl, Lib.hid (H1.out.trans (H1.out.is.more (by rw [hq]; rfl)))⟩
  ·rw [if_neg z0]
   have z0' : ¬ (k : Int) = 0 := by omega
   rw [decide_eq_false z0]
   go_enter Tryz.func121, Tryz.ntmps121
   go_wp2_with (first | (go_at_call 56; refine cA.mono ?_; rintro e w1 ⟨rfl, rfl⟩) | (go_at_call 171; refine cP.out.mono ?_; rintro e w2 ⟨gp1, fx1, rfl, H1⟩))
   go_ret2
   exact ⟨gp1, fx1, rfl, H1⟩
end
end Go.Proofs.YtkjpdfomppjiiaaGreatDoor
/- An append of one cell to a row of one's own. No program is named here. -/
namespace Go.Proofs.YtkjpdfomppjiiaaGreatDoor
open Go.RowKit

theorem append_sharp {P : Program} (w : World) (t ty e : TypeId) (i : TypeInfo) (z : Value) (bytes : Nat) (ht : P.underlying t = some (.slice e)) (hi : P.info? e = some i) (hz : i.zero = some z) (hsize : i.size = 1) (hby : i.bytes = bytes) (hbb : bytes ≤ 64) (hzs : z.cells.size = 1)
  (v : Value) (n : Nat) (xs : List Value) (hown : w.ownsRow 0 e 1 v n xs) (a : Addr) (c : Nat) (x : Value) (hx : w.cell? (a.add 0) = some x) (h1 : x.oneCell' = true) (hn : n < 1000000) :
  ∃ g cap w', (Builtin.append_ #[t, t] ty #[v, .slice (some a) 1 c]).run P w = .ok (.slice (some ⟨g, 0, none⟩) (n + 1) cap) w' ∧ w'.ownsRow 0 e 1 (.slice (some ⟨g, 0, none⟩) (n + 1) cap) (n + 1) (xs ++ [x]) ∧ w.grownBy w' v.ownBlock ∧ (v.ownBlock = some g ∨ w.heap.size ≤ g) := by
 have hnews : ∀ (j : Nat) u, [x][j]? = some u → w.cell? (a.add j) = some u := by
  intro j u hj
  have : j = 0 := by have := (List.getElem?_eq_some_iff.1 hj).1; simpa using this
  subst this
  simp at hj; subst hj; exact hx
 have h63 : n + 1 ≤ maxLen := by unfold maxLen; omega
 have hbytes : (n + 1) * bytes ≤ 140737488355328 := Nat.le_trans (Nat.mul_le_mul (show n + 1 ≤ 1000000 by omega) hbb) (by decide)
 have hnew : ∀ v' (w' : World), w'.ownsRow w.heap.size e 1 v' (n + 1) (xs ++ [x]) → w.grownBy w' none → ∃ g cap, v' = .slice (some ⟨g, 0, none⟩) (n + 1) cap ∧ w'.ownsRow 0 e 1 v' (n + 1) (xs ++ [x]) ∧ w.grownBy w' v.ownBlock ∧ (v.ownBlock = some g ∨ w.heap.size ≤ g) := by
  intro v' w' h2 h3
  obtain ⟨k1, k2⟩ := h2
  rcases k2 with ⟨_, k2⟩ | ⟨g, cap, cur, rfl, hg, r⟩
  ·omega
  ·exact ⟨g, cap, rfl, ⟨k1, .inr ⟨g, cap, cur, rfl, Nat.zero_le _, r⟩⟩, ⟨h3.os, h3.tape, h3.output, h3.size, fun k hk _ => h3.block k hk (by simp)⟩, .inr hg⟩
 have hown2 := hown
 rcases hown.2 with ⟨rfl, rfl⟩ | ⟨g, cap, cur, rfl, _, hg, hnc, hcm, hcs, htake⟩
 ·have hx0 : xs = [] := List.eq_nil_of_length_eq_zero (by simpa using hown.1)
  subst hx0
  obtain ⟨v', w', hr, h2, h3, _⟩ := run_append_own (P := P) w w.heap.size t ty e i z 1 bytes ht hi hz hsize hby hzs (by omega) (.slice none 0 0) 0 [] (World.ownsRow_nil _ _ _ _) a 1 c [x] rfl hnews (by simpa using h1) h63 hbytes (Nat.le_refl _)
  obtain ⟨g, cap, rfl, r⟩ := hnew v' w' h2 h3
  exact ⟨g, cap, w', hr, r⟩
 ·by_cases hroom : n + 1 ≤ cap
  ·have hr := run_append_room (P := P) w t ty e i ht hi g n cap cur hg a 1 c [x] (by simp [hsize]) hnews (by simpa using h1) hroom (by rw [hsize, hcs]; simp; omega)
   refine ⟨g, cap, _, hr, ⟨by simp; have := hown.1; omega, .inr ⟨g, cap, _, rfl, Nat.zero_le _, setRow_heap w g cur _ e _ hg, hroom, hcm, ?_, ?_⟩⟩, ⟨rfl, rfl, rfl, by simp, fun k _ hk => setRow_other w g k _ (fun e => hk (by simp [Value.ownBlock, e]))⟩, .inl rfl⟩
   ·simp [hsize, hcs]; omega
   ·rw [hsize, htake]
    have hxl : xs.length = n := by have := hown.1; omega
    simp [List.take_append, hxl]
    exact List.take_of_length_le (by omega)
  ·have holds : ∀ j u, xs[j]? = some u → w.cell? ((⟨g, 0, none⟩ : Addr).add j) = some u := hown.cells (g := g) rfl
   obtain ⟨v', w', hr, h2, h3⟩ := run_append_arg_grows (P := P) w t ty e i z 1 bytes ht hi hz hsize hby hzs (by omega) ⟨g, 0, none⟩ n cap xs hown.1 holds a 1 c [x] rfl hnews (by omega) h63 hbytes
   obtain ⟨g2, cap2, rfl, r⟩ := hnew v' w' h2 h3
   exact ⟨g2, cap2, w', hr, r⟩

theorem wpList_run_append {P : Program} {w : World} {ops : Array Oper} {rest : List Oper} {o : Oper} {a : Act} {Q : Exit → Act → World → Prop} (hgd : o.guard = none) (s x : Operand) (t : TypeId)
  (ho : o.op = .call { callee := .builtin .append, args := #[s, x], argTypes := #[t, t] }) {v1 v2 v' : Value} {w' : World} (hs : a.eval s = v1) (hx : a.eval x = v2)
  (hr : (Builtin.append_ #[t, t] o.type #[v1, v2]).run P w = .ok v' w') (h : wpList P ops Q rest (a.put o.dst v') w') : wpList P ops Q (o :: rest) a w :=
 wpList_plain hgd fun K hK => by
  unfold Oper.wp execOp
  simp only [ho, resolve, invoke, builtin, Sem.run_bind, Sem.run_pure, Result.andThen_ok, List.map_toArray, List.map_cons, List.map_nil, hs, hx, hr]
  exact hK _ _ h
end Go.Proofs.YtkjpdfomppjiiaaGreatDoor
/- The mirror: whole, Read. -/
namespace Go.Proofs.YtkjpdfomppjiiaaGreatDoor
open Go.RowKit

section
variable {W : World} {b p tb mb : Nat} {gp : List Nat} {x : Nat → Nat} {fx : Nat → List Nat} {M : Mi} {B z c : Nat}
structure WIn (w : World) (b p tb mb : Nat) (gp : List Nat) (x : Nat → Nat) (fx : Nat → List Nat) (M : Mi) (g : Nat) (l : List Value) : Prop where
 is : IsM w b p tb mb gp x fx M
 box : Blk w g 79 l
 free : g ∉ b :: mb :: p :: (fx 0 ++ fx 1)
theorem WIn.q0 {w : World} {g : Nat} {l : List Value} (h : WIn w b p tb mb gp x fx M g l) : w.cell? ⟨b, 0, none⟩ = some (.pointer (some ⟨p, 0, none⟩)) := Blk.cell h.is.blk (i := 0) rfl
theorem WIn.q1 {w : World} {g : Nat} {l : List Value} (h : WIn w b p tb mb gp x fx M g l) : w.cell? ⟨b, 1, none⟩ = some (.pointer (some ⟨tb, 0, none⟩)) := Blk.cell h.is.blk (i := 1) rfl
theorem WIn.keep {w w1 : World} {g : Nat} {l : List Value} (h : WIn w b p tb mb gp x fx M g l) (hm : Mods [] w w1) : WIn w1 b p tb mb gp x fx M g l := ⟨h.is.still hm, h.box.keep hm (by simp), h.free⟩
theorem IsM.foot {w : World} (h : IsM w b p tb mb gp x fx M) : ∀ k ∈ b :: mb :: p :: (fx 0 ++ fx 1), k < w.heap.size := by
 obtain ⟨l1, l2, l3⟩ := h.lt
 intro k hk
 rcases List.mem_cons.1 hk with rfl | hk
 ·exact l1
 ·rcases List.mem_cons.1 hk with rfl | hk
  ·exact l3
  ·rcases List.mem_cons.1 hk with rfl | hk
   ·exact h.pair.pb.lt _ h.at_p
   ·rcases List.mem_append.1 hk with hk | hk
    ·exact (h.pair.dev 0 (by decide)).lt _ hk
    ·exact (h.pair.dev 1 (by decide)).lt _ hk
theorem WIn.new {w : World} (h : IsM w b p tb mb gp x fx M) (l : List Value) : WIn (w.alloc (.cells l.toArray 79 (0, 0))) b p tb mb gp x fx M w.heap.size l :=
 ⟨h.still ((Mods.refl _ _).alloc _), Blk.new w 79 l, fun hx => by have := h.foot _ hx; omega⟩
theorem WIn.read {w : World} {g : Nat} {l : List Value} (h : WIn w b p tb mb gp x fx M g l) (hF : Fine B z c M.P) (hc : c ≤ 800000) {s : Nat} (hs : s < 2) (i : Int) :
  Calls Tryz.prog 137 #[.pointer (some ⟨p, 0, none⟩), .int .i64 (s : Nat), .int .i64 i] w fun e w' => e = .returned (.tuple #[.string (M.P.read s i).1, .int .i64 ((M.P.read s i).2 : Nat)]) ∧ Hid (WIn w' b p tb mb gp x fx M g l) ∧ Hid (MTo w w' b p tb mb gp gp x fx fx M) :=
 (rRead_m h.is.pair hF hc hs i).mono fun e w' ⟨h1, h2⟩ => by
  have k := h.is.pairTo h2.out
  exact ⟨h1, Lib.hid ⟨k.is, h.box.keep h2.out.mods (fun hx => h.free (List.mem_cons_of_mem _ (List.mem_cons_of_mem _ hx))), h.free⟩, Lib.hid k⟩
theorem Mi.whole_at {q : PtrE} {i s : Nat} (hs : s < 2) (hno : ∀ k, k < s → M.has q k i = false) (h : M.has q s i = true) : M.whole q i = ((M.P.read s (i : Int)).1, s, 0) := by
 unfold Mi.whole
 rcases two_cases hs with rfl | rfl
 ·rw [if_pos h]
 ·rw [if_neg (by rw [hno 0 (by decide)]; decide), if_pos h]
theorem Mi.whole_no {q : PtrE} {i : Nat} (hno : ∀ k, k < 2 → M.has q k i = false) : M.whole q i = (⟨#[]⟩, 0, M.none 10) := by
 unfold Mi.whole
 rw [if_neg (by rw [hno 0 (by decide)]; decide), if_neg (by rw [hno 1 (by decide)]; decide)]
set_option maxRecDepth 100000 in
set_option maxHeartbeats 6400000 in
theorem mWhole_m (h : IsM W b p tb mb gp x fx M) (hF : Fine B z c M.P) (hc : c ≤ 800000) (q : PtrE) (i : Nat) (hq : q.addr = (i : Int)) :
  Calls Tryz.prog 120 #[.pointer (some ⟨b, 0, none⟩), ptrV q] W fun e w' => e = .returned (.tuple #[.string (M.whole q i).1, .int .i64 ((M.whole q i).2.1 : Nat), .int .i64 ((M.whole q i).2.2 : Nat)]) ∧ Hid (MTo W w' b p tb mb gp gp x fx fx M) := by
 have cM := Lib.hid (fun (w : World) (I : ByteArray) (h1 : IsM w b p tb mb gp x fx M) => eMeets_any h1.sum q I)
 unfold ptrV at cM ⊢
 rw [hq] at cM ⊢
 obtain ⟨w1, hw1⟩ : ∃ w1, W.alloc (.cells #[.int .i64 (i : Nat), .int .u64 (q.gen : Nat), .int .u32 (q.sum : Nat)] 79) = w1 := ⟨_, rfl⟩
 obtain ⟨g, hg⟩ : ∃ g, W.heap.size = g := ⟨_, rfl⟩
 have hwi : WIn w1 b p tb mb gp x fx M g [.int .i64 (i : Nat), .int .u64 (q.gen : Nat), .int .u32 (q.sum : Nat)] := by rw [← hw1, ← hg]; exact WIn.new h _
 have hto : MTo W w1 b p tb mb gp gp x fx fx M := by rw [← hw1]; exact MTo.still h ((Mods.refl _ _).alloc _)
 have H0 := Lib.hid (And.intro hwi hto)
 have cR := Lib.hid (fun (w : World) (h1 : WIn w b p tb mb gp x fx M g [.int .i64 (i : Nat), .int .u64 (q.gen : Nat), .int .u32 (q.sum : Nat)]) (s : Nat) (hs : s < 2) => h1.read hF hc hs (i : Int))
 have cN := Lib.hid (fun (w : World) (h1 : IsM w b p tb mb gp x fx M) => show Calls Tryz.prog 102 #[.pointer (some ⟨b, 0, none⟩), .int .i64 10] w _ from mNone_m h1 10)
 have HN6 := Lib.hid (fun (s : Nat) (hs : s < 2) => hF.read hs (i : Int))
 obtain ⟨gn, hgn⟩ : ∃ gn, q.gen = gn := ⟨_, rfl⟩
 obtain ⟨sm, hsm⟩ : ∃ sm, q.sum = sm := ⟨_, rfl⟩
 rw [hgn, hsm] at H0 cR cM hw1 ⊢
 clear hwi hto h hF hq
 go_enter Tryz.func120, Tryz.ntmps120
 go_wp2_with fail
 clear hw1 hg
 go_loopw [10] (fun iv wr => ∃ s : Nat, s ≤ 2 ∧ iv = .int .i64 (s : Nat) ∧ (∀ k, k < s → M.has q k i = false) ∧ WIn wr b p tb mb gp x fx M g [.int .i64 (i : Nat), .int .u64 (gn : Nat), .int .u32 (sm : Nat)] ∧ MTo W wr b p tb mb gp gp x fx fx M) (fun iv _ => 2 - (intOf iv).toNat)
 case atStart => exact ⟨0, by omega, rfl, fun k hk => by omega, H0.out.1, H0.out.2⟩
 case round =>
  clear H0
  obtain ⟨s, hs, rfl, hno, hW, hT⟩ := hrel
  have HW := Lib.hid hW
  have HT := Lib.hid (And.intro hno hT)
  have y0 := hW.q0
  have y1 := hW.box.cell (i := 0) rfl
  clear hno hW hT
  by_cases hlt : s < 2
  ·have cRs := Lib.hid (fun (w : World) (h1 : WIn w b p tb mb gp x fx M g [.int .i64 (i : Nat), .int .u64 (gn : Nat), .int .u32 (sm : Nat)]) => cR.out w h1 s hlt)
   have n6 := HN6.out s hlt
   have hhas : M.has q s i = (decide ((M.P.read s (i : Int)).2 = 0) && meetsL q (M.P.read s (i : Int)).1.toList) := rfl
   have HAT := Lib.hid (fun (hn : ∀ k, k < s → M.has q k i = false) (hh : M.has q s i = true) => Mi.whole_at hlt hn hh)
   generalize M.P.read s (i : Int) = r at *
   obtain ⟨I, k⟩ := r
   simp only at cRs n6 hhas HAT
   have n6' : ¬ (k : Int) = 6 := by omega
   go_wp2_with fail
   go_region_held3 (fun w' => w'.cell? ⟨b, 0, none⟩ = some (.pointer (some ⟨p, 0, none⟩)) ∧ w'.cell? ⟨g, 0, none⟩ = some (.int .i64 (i : Nat)))
    (first | go_keep | exact HC.out | fail)
    ((go_at_call 137; refine (cRs.out _ (HW.out.keep ((Mods.refl _ _).drew))).mono ?_; rintro e w2 ⟨rfl, HW2, HT2⟩; have HC := Lib.hid (And.intro HW2.out.q0 (HW2.out.box.cell (i := 0) rfl))))
   have HT3 : Hid (MTo W w2 b p tb mb gp gp x fx fx M) := Lib.hid ((HT.out.2.tr ((Mods.refl _ _).drew)).trans HT2.out)
   have y2 := HW2.out.q1
   have y3 := HW2.out.box.cell (i := 0) rfl
   have y4 := HW2.out.box.cell (i := 1) rfl
   have y5 := HW2.out.box.cell (i := 2) rfl
   clear y0 y1 HC
   by_cases hk : k = 0
   ·subst hk
    have cMs := Lib.hid (fun (w : World) (hm : Mods [] w2 w) => cM.out w I (HW2.out.is.still hm))
    cases hme : meetsL q I.toList with
    | true =>
     rw [hme] at hhas cMs
     have HA := Lib.hid (HAT.out HT.out.1 hhas)
     clear hhas
     go_wp2_with fail
     go_region_held3 (fun w' => w'.cell? ⟨b, 1, none⟩ = some (.pointer (some ⟨tb, 0, none⟩)) ∧ w'.cell? ⟨g, 0, none⟩ = some (.int .i64 (i : Nat)) ∧ w'.cell? ⟨g, 1, none⟩ = some (.int .u64 (gn : Nat)) ∧ w'.cell? ⟨g, 2, none⟩ = some (.int .u32 (sm : Nat)))
      (first | go_keep | exact HD.out | fail)
      ((go_at_call 170; refine (cMs.out _ ((Mods.refl _ _).drew)).mono ?_; rintro e w3 ⟨rfl, hm3⟩; have HM3 := Lib.hid (((Mods.refl [] w2).drew).trans hm3 (by simp)); have HW4 := HW2.out.keep HM3.out; have HD := Lib.hid (And.intro HW4.q1 (And.intro (HW4.box.cell (i := 0) rfl) (And.intro (HW4.box.cell (i := 1) rfl) (HW4.box.cell (i := 2) rfl))))))
     go_wp2_with fail
     go_ret3
     rw [HA.out]
     exact ⟨rfl, Lib.hid (HT3.out.tr HM3.out)⟩
    | false =>
     rw [hme] at hhas cMs
     have HNO : Hid (∀ k, k < s + 1 → M.has q k i = false) := Lib.hid (fun k hk => by
      rcases Nat.lt_succ_iff_lt_or_eq.1 hk with h1 | rfl
      ·exact HT.out.1 k h1
      ·rw [hhas]; rfl)
     clear hhas
     go_wp2_with fail
     go_region_held3 (fun w' => w'.cell? ⟨b, 1, none⟩ = some (.pointer (some ⟨tb, 0, none⟩)) ∧ w'.cell? ⟨g, 0, none⟩ = some (.int .i64 (i : Nat)) ∧ w'.cell? ⟨g, 1, none⟩ = some (.int .u64 (gn : Nat)) ∧ w'.cell? ⟨g, 2, none⟩ = some (.int .u32 (sm : Nat)))
      (first | go_keep | exact HD.out | fail)
      ((go_at_call 170; refine (cMs.out _ ((Mods.refl _ _).drew)).mono ?_; rintro e w3 ⟨rfl, hm3⟩; have HM3 := Lib.hid (((Mods.refl [] w2).drew).trans hm3 (by simp)); have HW4 := HW2.out.keep HM3.out; have HD := Lib.hid (And.intro HW4.q1 (And.intro (HW4.box.cell (i := 0) rfl) (And.intro (HW4.box.cell (i := 1) rfl) (HW4.box.cell (i := 2) rfl))))))
     go_wp2_with fail
     go_roundw
     case rel => exact ⟨s + 1, by omega, by go_num, HNO.out, HW2.out.keep HM3.out, HT3.out.tr HM3.out⟩
     case measure => simp [intOf]; omega
   ·have hk' : ¬ (k : Int) = 0 := by omega
    have HNO : Hid (∀ k, k < s + 1 → M.has q k i = false) := Lib.hid (fun k' hk1 => by
     rcases Nat.lt_succ_iff_lt_or_eq.1 hk1 with h1 | rfl
     ·exact HT.out.1 k' h1
     ·rw [hhas, decide_eq_false hk]; rfl)
    clear hhas
    go_wp2_with fail
    go_quiet (fail)
    go_wp2_with fail
    go_roundw
    case rel => exact ⟨s + 1, by omega, by go_num, HNO.out, HW2.out.keep ((Mods.refl _ _).drewN _), HT3.out.tr ((Mods.refl _ _).drewN _)⟩
    case measure => simp [intOf]; omega
  ·obtain rfl : s = 2 := by omega
   have hwn := Mi.whole_no (M := M) (q := q) (i := i) HT.out.1
   go_wp2_with (go_at_call 102; refine (cN.out _ HW.out.is).mono ?_; rintro e w2 ⟨rfl, rfl⟩)
   go_ret3
   rw [hwn]
   exact ⟨rfl, Lib.hid HT.out.2⟩
end
end Go.Proofs.YtkjpdfomppjiiaaGreatDoor
/- The mirror: Heal. -/
namespace Go.Proofs.YtkjpdfomppjiiaaGreatDoor
open Go.RowKit

section
variable {W : World} {b p tb mb : Nat} {gp : List Nat} {x : Nat → Nat} {fx : Nat → List Nat} {M : Mi} {B z c : Nat}
theorem Mi.repair_fine (hF : Fine B z c M.P) (hn : M.P.n ≤ 32) {s : Nat} (hs : s < 2) (i : Nat) (img : ByteArray) : Fine B z (c + 66) (M.repair s i img).2.P ∧ Alike M.P (M.repair s i img).2.P ∧ (M.repair s i img).2.reps ≤ M.reps + 1 := by
 unfold Mi.repair
 split
 ·exact ⟨hF.mono (by omega), Alike.refl _, Nat.le_succ _⟩
 ·obtain ⟨f, a, _⟩ := Mi.put_fine hF hn hs i img
  simp only
  split
  ·exact ⟨f, a, Nat.le_of_eq (by rw [Mi.put_reps])⟩
  ·exact ⟨f, a, by rw [Mi.put_reps]; exact Nat.le_succ _⟩
def Mi.healN (M : Mi) (i : Nat) (img : ByteArray) : Nat → Nat × Mi
 | 0 => (0, M)
 | s + 1 => ((M.healN i img s).1 + ((M.healN i img s).2.healS s i img).1, ((M.healN i img s).2.healS s i img).2)
theorem Mi.heal_two (M : Mi) (i : Nat) (img : ByteArray) : M.heal i img = M.healN i img 2 := by
 unfold Mi.heal Mi.healN Mi.healN Mi.healN
 simp only [Nat.zero_add]
theorem Mi.healS_fine (hF : Fine B z c M.P) (hn : M.P.n ≤ 32) {s : Nat} (hs : s < 2) (i : Nat) (img : ByteArray) : Fine B z (c + 66) (M.healS s i img).2.P ∧ Alike M.P (M.healS s i img).2.P ∧ (M.healS s i img).2.reps ≤ M.reps + 1 ∧ (M.healS s i img).1 ≤ 1 := by
 unfold Mi.healS
 split
 ·exact ⟨hF.mono (by omega), Alike.refl _, Nat.le_succ _, Nat.zero_le _⟩
 ·obtain ⟨f, a, r⟩ := Mi.repair_fine hF hn hs i img
  refine ⟨f, a, r, ?_⟩
  simp only
  split <;> omega
theorem Mi.healN_fine (hF : Fine B z c M.P) (hn : M.P.n ≤ 32) (i : Nat) (img : ByteArray) : ∀ {s : Nat}, s ≤ 2 → Fine B z (c + 66 * s) (M.healN i img s).2.P ∧ Alike M.P (M.healN i img s).2.P ∧ (M.healN i img s).2.reps ≤ M.reps + s ∧ (M.healN i img s).1 ≤ s
 | 0, _ => ⟨hF, Alike.refl _, Nat.le_refl _, Nat.le_refl _⟩
 | s + 1, hs => by
  obtain ⟨f, a, r, k⟩ := Mi.healN_fine hF hn i img (s := s) (by omega)
  obtain ⟨f2, a2, r2, k2⟩ := Mi.healS_fine f (by rw [a.n]; exact hn) (s := s) (by omega) i img
  unfold Mi.healN
  exact ⟨f2.mono (by omega), a.trans a2, by simp only; omega, by simp only; omega⟩
set_option maxRecDepth 100000 in
set_option maxHeartbeats 6400000 in
theorem mHeal_m (h : IsM W b p tb mb gp x fx M) (hF : Fine B z c M.P) (hc : c ≤ 600000) (hr : M.reps < 900000000) {i : Nat} (hi : i < B) {img : ByteArray} (hx : img.size = z) :
  Calls Tryz.prog 88 #[.pointer (some ⟨b, 0, none⟩), .int .i64 (i : Nat), .string img] W fun e w' => ∃ gp' fx', e = .returned (.tuple #[.int .i64 ((M.heal i img).1 : Nat), .int .i64 0]) ∧ Hid (MTo W w' b p tb mb gp gp' x fx fx' (M.heal i img).2) := by
 have cS := Lib.hid (mSized_m h hF (i : Int) img)
 have hsz : sizedM B z (i : Int) img.size = 0 := by unfold sizedM; rw [if_pos (by omega), if_pos hx]
 rw [hsz] at cS
 rw [Mi.heal_two]
 have HF := Lib.hid (fun (s : Nat) (hs : s ≤ 2) => Mi.healN_fine hF h.n_le i img hs)
 have HNL := Lib.hid h.n_le
 have HS := Lib.hid (fun (w : World) (hm : Mods [] W w) => show MTo W w b p tb mb gp gp x fx fx (M.healN i img 0).2 from MTo.still h hm)
 clear h hF hsz hx
 go_enter Tryz.func88, Tryz.ntmps88
 go_wp2_with (go_at_call 142; refine cS.out.mono ?_; rintro e w1 ⟨rfl, HM1⟩)
 go_loopw [21, 9] (fun iv nv wr => ∃ (s : Nat) (gp1 : List Nat) (fx1 : Nat → List Nat), s ≤ 2 ∧ iv = .int .i64 (s : Nat) ∧ nv = .int .i64 ((M.healN i img s).1 : Nat) ∧ MTo W wr b p tb mb gp gp1 x fx fx1 (M.healN i img s).2) (fun iv _ _ => 2 - (intOf iv).toNat)
 case atStart => exact ⟨0, gp, fx, by omega, rfl, rfl, HS.out _ HM1.out⟩
 case round =>
  clear HS HM1
  obtain ⟨s, gp1, fx1, hs, rfl, rfl, hT⟩ := hrel
  have HT := Lib.hid hT
  have y0 : wr.cell? ⟨b, 0, none⟩ = some (.pointer (some ⟨p, 0, none⟩)) := Blk.cell hT.is.blk (i := 0) rfl
  clear hT
  obtain ⟨f1, a1, r1, k1⟩ := HF.out s hs
  by_cases hlt : s < 2
  ·have hnx : M.healN i img (s + 1) = ((M.healN i img s).1 + ((M.healN i img s).2.healS s i img).1, ((M.healN i img s).2.healS s i img).2) := rfl
   obtain ⟨R, hR⟩ : ∃ R, M.healN i img s = R := ⟨_, rfl⟩
   obtain ⟨n1, M1⟩ := R
   rw [hR] at f1 a1 r1 k1 hnx HT
   simp only at f1 a1 r1 k1 hnx HT
   rw [hR]
   simp only
   have hM1n : M1.P.n ≤ 32 := by rw [a1.n]; exact HNL.out
   have cRd := Lib.hid ((rRead_m HT.out.is.pair f1 (by omega) hlt (i : Int)).mono (R' := fun e w' => e = .returned (.tuple #[.string (M1.P.read s (i : Int)).1, .int .i64 ((M1.P.read s (i : Int)).2 : Nat)]) ∧ Hid (MTo wr w' b p tb mb gp1 gp1 x fx1 fx1 M1)) fun e w' ⟨h1, h2⟩ => ⟨h1, Lib.hid (HT.out.is.pairTo h2.out)⟩)
   have cRp := Lib.hid (fun (w : World) (gp2 : List Nat) (fx2 : Nat → List Nat) (h1 : IsM w b p tb mb gp2 x fx2 M1) => mRepair_m h1 f1 (by omega) (by omega) hlt i img)
   have n6 := f1.read hlt (i : Int)
   have hw : IntKind.i64.wrap ((n1 : Int) + 1) = ((n1 + 1 : Nat) : Int) := by rw [IntKind.wrap_i64]; omega
   by_cases hsk : M1.P.read s (i : Int) = (img, 0)
   ·have hh : M1.healS s i img = (0, M1) := by unfold Mi.healS; rw [if_pos hsk]
    rw [hh] at hnx
    rw [hsk] at cRd
    simp only at cRd hnx
    have HX := Lib.hid hnx
    clear hsk hh hnx n6 f1 a1 r1 hR
    go_wp2_with (go_at_call 137; refine cRd.out.mono ?_; rintro e w2 ⟨rfl, H2⟩)
    go_roundw
    case rel => exact ⟨s + 1, gp1, fx1, by omega, by go_num, by rw [HX.out]; rfl, by rw [HX.out]; exact HT.out.trans H2.out⟩
    case measure => simp [intOf]; omega
   ·have hh : M1.healS s i img = (if (M1.repair s i img).1 = true then 1 else 0, (M1.repair s i img).2) := by unfold Mi.healS; rw [if_neg hsk]
    rw [hh] at hnx
    generalize M1.P.read s (i : Int) = r at *
    obtain ⟨I, k⟩ := r
    simp only at cRd n6 hnx
    have n6' : ¬ (k : Int) = 6 := by omega
    generalize M1.repair s i img = rp at *
    obtain ⟨ok, M2⟩ := rp
    simp only at cRp hnx
    have HX := Lib.hid hnx
    by_cases hk : k = 0
    ·subst hk
     have hI : (I.toList == img.toList) = false := beq_eq_false_iff_ne.2 (fun e => hsk (by rw [← bA_of I, e, bA_of]))
     clear hsk hh hnx n6 f1 a1 r1 hR
     cases ok with
     | true =>
      go_wp2_with (first | (go_at_call 137; refine cRd.out.mono ?_; rintro e w2 ⟨rfl, H2⟩) | (go_at_call 121; refine (cRp.out _ _ _ H2.out.is).mono ?_; rintro e w3 ⟨gp2, fx2, rfl, H3⟩))
      go_roundw
      case rel => exact ⟨s + 1, gp2, fx2, by omega, by go_num, by rw [HX.out]; rfl, by rw [HX.out]; exact (HT.out.trans H2.out).trans H3.out⟩
      case measure => simp [intOf]; omega
     | false =>
      go_wp2_with (first | (go_at_call 137; refine cRd.out.mono ?_; rintro e w2 ⟨rfl, H2⟩) | (go_at_call 121; refine (cRp.out _ _ _ H2.out.is).mono ?_; rintro e w3 ⟨gp2, fx2, rfl, H3⟩))
      go_roundw
      case rel => exact ⟨s + 1, gp2, fx2, by omega, by go_num, by rw [HX.out]; rfl, by rw [HX.out]; exact (HT.out.trans H2.out).trans H3.out⟩
      case measure => simp [intOf]; omega
    ·have hk' : ¬ (k : Int) = 0 := by omega
     clear hsk hh hnx n6 f1 a1 r1 hR
     cases ok with
     | true =>
      go_wp2_with (first | (go_at_call 137; refine cRd.out.mono ?_; rintro e w2 ⟨rfl, H2⟩) | (go_at_call 121; refine (cRp.out _ _ _ H2.out.is).mono ?_; rintro e w3 ⟨gp2, fx2, rfl, H3⟩))
      go_roundw
      case rel => exact ⟨s + 1, gp2, fx2, by omega, by go_num, by rw [HX.out]; rfl, by rw [HX.out]; exact (HT.out.trans H2.out).trans H3.out⟩
      case measure => simp [intOf]; omega
     | false =>
      go_wp2_with (first | (go_at_call 137; refine cRd.out.mono ?_; rintro e w2 ⟨rfl, H2⟩) | (go_at_call 121; refine (cRp.out _ _ _ H2.out.is).mono ?_; rintro e w3 ⟨gp2, fx2, rfl, H3⟩))
      go_roundw
      case rel => exact ⟨s + 1, gp2, fx2, by omega, by go_num, by rw [HX.out]; rfl, by rw [HX.out]; exact (HT.out.trans H2.out).trans H3.out⟩
      case measure => simp [intOf]; omega
  ·obtain rfl : s = 2 := by omega
   go_wp2_with fail
   go_ret2
   exact ⟨gp1, fx1, rfl, HT⟩
end
end Go.Proofs.YtkjpdfomppjiiaaGreatDoor
/- The mirror: Read, Check. -/
namespace Go.Proofs.YtkjpdfomppjiiaaGreatDoor
open Go.RowKit

theorem Dev.late_mem {c : List (Nat × ByteArray)} {i : Nat} {s : ByteArray} (h : Dev.late c i = some s) : ∃ y ∈ c, y.2 = s := by
 unfold Dev.late at h
 rw [Option.map_eq_some_iff] at h
 obtain ⟨y, h1, h2⟩ := h
 exact ⟨y, by simpa using List.mem_of_find?_eq_some h1, h2⟩
theorem Dev.read_size {D : Dev} (ho : D.Ok) {i : Int} (h : (D.read i).2 = 0) : (D.read i).1.size = D.size := by
 unfold Dev.read at h ⊢
 split
 ·rename_i h1
  rw [if_pos h1] at h
  exact absurd h h1
 ·rename_i h1
  rw [if_neg h1] at h
  split
  ·rename_i h2; rw [if_pos h2] at h; cases h
  ·rename_i h2
   rw [if_neg h2] at h
   split
   ·rename_i h3; rw [if_pos h3] at h; cases h
   ·show (D.cur i.toNat).size = D.size
    unfold Dev.cur
    cases hl : Dev.late D.cache i.toNat with
    | some s =>
     obtain ⟨y, hy, rfl⟩ := Dev.late_mem hl
     exact (ho.cache y hy).2
    | none =>
     have hi : i.toNat < D.media.length := by
      rw [ho.media]
      unfold Dev.isS at h2
      simp at h2
      omega
     rw [Option.getD_none, List.getD_eq_getElem?_getD, List.getElem?_eq_getElem hi]
     exact ho.each _ (List.getElem_mem hi)
section
variable {W : World} {b p tb mb : Nat} {gp : List Nat} {x : Nat → Nat} {fx : Nat → List Nat} {M : Mi} {B z c : Nat}
theorem IsM.read_size {w : World} (h : IsM w b p tb mb gp x fx M) (hF : Fine B z c M.P) {s : Nat} (hs : s < 2) {i : Int} (he : (M.P.read s i).2 = 0) : (M.P.read s i).1.size = z := by
 unfold Pr.read at he ⊢
 split
 ·rename_i h1; rw [if_pos h1] at he; exact absurd he h1
 ·rename_i h1
  rw [if_neg h1] at he
  rw [Dev.read_size (h.pair.dev s hs).ok he]
  exact (hF.on s hs).size
theorem Mi.none_ne (M : Mi) {o : Nat} (ho : o ≠ 0) : M.none o ≠ 0 := by unfold Mi.none; split <;> omega
theorem Mi.has_ok {q : PtrE} {s i : Nat} (h : M.has q s i = true) : (M.P.read s (i : Int)).2 = 0 ∧ meetsL q (M.P.read s (i : Int)).1.toList = true := by
 unfold Mi.has at h
 simpa using h
theorem Mi.whole_ok {q : PtrE} {i : Nat} (h : (M.whole q i).2.2 = 0) : ∃ s, s < 2 ∧ M.has q s i = true ∧ M.whole q i = ((M.P.read s (i : Int)).1, s, 0) := by
 cases h0 : M.has q 0 i with
 | true => exact ⟨0, by decide, h0, Mi.whole_at (by decide) (fun k hk => by omega) h0⟩
 | false =>
  cases h1 : M.has q 1 i with
  | true => exact ⟨1, by decide, h1, Mi.whole_at (by decide) (fun k hk => by rw [show k = 0 by omega]; exact h0) h1⟩
  | false =>
   rw [Mi.whole_no (fun k hk => by rcases two_cases hk with rfl | rfl <;> assumption)] at h
   exact absurd h (Mi.none_ne M (by decide))
theorem WIn.whole {w : World} {g : Nat} {l : List Value} (h : WIn w b p tb mb gp x fx M g l) (hF : Fine B z c M.P) (hc : c ≤ 800000) (q : PtrE) (i : Nat) (hq : q.addr = (i : Int)) :
  Calls Tryz.prog 120 #[.pointer (some ⟨b, 0, none⟩), ptrV q] w fun e w' => e = .returned (.tuple #[.string (M.whole q i).1, .int .i64 ((M.whole q i).2.1 : Nat), .int .i64 ((M.whole q i).2.2 : Nat)]) ∧ Hid (WIn w' b p tb mb gp x fx M g l) ∧ Hid (MTo w w' b p tb mb gp gp x fx fx M) :=
 (mWhole_m h.is hF hc q i hq).mono fun _e _w' ⟨h1, h2⟩ => ⟨h1, Lib.hid ⟨h2.out.is, h.box.keep h2.out.mods h.free, h.free⟩, h2⟩
set_option maxRecDepth 100000 in
set_option maxHeartbeats 6400000 in
theorem mChk_m (h : IsM W b p tb mb gp x fx M) (hF : Fine B z c M.P) (hc : c ≤ 600000) (hr : M.reps < 900000000) (q : PtrE) {i : Nat} (hi : i < B) (hq : q.addr = (i : Int)) :
  Calls Tryz.prog 153 #[.pointer (some ⟨b, 0, none⟩), ptrV q] W fun e w' => ∃ gp' fx', e = .returned (.tuple #[.int .i64 ((M.check q i).1.1 : Nat), .int .i64 ((M.check q i).1.2 : Nat)]) ∧ Hid (MTo W w' b p tb mb gp gp' x fx fx' (M.check q i).2) := by
 obtain ⟨w1, hw1⟩ : ∃ w1, W.alloc (.cells #[.int .i64 (i : Nat), .int .u64 (q.gen : Nat), .int .u32 (q.sum : Nat)] 79) = w1 := ⟨_, rfl⟩
 obtain ⟨g, hg⟩ : ∃ g, W.heap.size = g := ⟨_, rfl⟩
 have hwi : WIn w1 b p tb mb gp x fx M g [.int .i64 (i : Nat), .int .u64 (q.gen : Nat), .int .u32 (q.sum : Nat)] := by rw [← hw1, ← hg]; exact WIn.new h _
 have hto : MTo W w1 b p tb mb gp gp x fx fx M := by rw [← hw1]; exact MTo.still h ((Mods.refl _ _).alloc _)
 have cC := Lib.hid (mCheck_m hwi.is hF (i : Int))
 rw [if_pos (by omega)] at cC
 have cW := Lib.hid (fun (w : World) (hm : Mods [] w1 w) => (hwi.keep hm).whole hF (by omega) q i hq)
 unfold ptrV at cW ⊢
 rw [hq] at cW ⊢
 have hsize : (M.whole q i).2.2 = 0 → (M.whole q i).1.size = z := fun he => by
  obtain ⟨s, hs, hh, e⟩ := Mi.whole_ok he
  rw [e]; exact h.read_size hF hs (Mi.has_ok hh).1
 have cH := Lib.hid (fun (w : World) (h1 : IsM w b p tb mb gp x fx M) (he : (M.whole q i).2.2 = 0) => mHeal_m h1 hF hc hr hi (hsize he))
 have HW := Lib.hid (And.intro hwi hto)
 unfold Mi.check
 generalize M.whole q i = r at *
 obtain ⟨I, s, k⟩ := r
 simp only at cW cH ⊢
 obtain ⟨gn, hgn⟩ : ∃ gn, q.gen = gn := ⟨_, rfl⟩
 obtain ⟨sm, hsm⟩ : ∃ sm, q.sum = sm := ⟨_, rfl⟩
 rw [hgn, hsm] at HW cW hw1 ⊢
 have y0 := hwi.box.cell (i := 0) rfl
 have HBX : Hid (∀ w, Mods [] w1 w → w.cell? ⟨g, 0, none⟩ = some (.int .i64 (i : Nat)) ∧ w.cell? ⟨g, 1, none⟩ = some (.int .u64 (gn : Nat)) ∧ w.cell? ⟨g, 2, none⟩ = some (.int .u32 (sm : Nat))) := Lib.hid (fun w hm => by
  have hb := (HW.out.1.keep hm).box
  exact ⟨hb.cell (i := 0) rfl, hb.cell (i := 1) rfl, hb.cell (i := 2) rfl⟩)
 by_cases hk : k = 0
 ·subst hk
  have cHI := Lib.hid (fun (w : World) (h1 : IsM w b p tb mb gp x fx M) => cH.out w h1 rfl)
  rw [if_neg (by simp)]
  generalize M.heal i I = hl at *
  obtain ⟨n, M2⟩ := hl
  simp only at cHI ⊢
  clear hwi hto h hF hq hsize cH hgn hsm
  go_enter Tryz.func153, Tryz.ntmps153
  go_wp2_with (first | (go_at_call 119; refine cC.out.mono ?_; rintro e w2 ⟨rfl, HM2⟩; obtain ⟨u0, u1, u2⟩ := HBX.out _ HM2.out) | (go_at_call 120; refine (cW.out _ HM2.out).mono ?_; rintro e w3 ⟨rfl, HW3, HT3⟩; have v0 := HW3.out.box.cell (i := 0) rfl) | (go_at_call 88; refine (cHI.out _ HW3.out.is).mono ?_; rintro e w4 ⟨gp4, fx4, rfl, HT4⟩))
  go_ret2
  exact ⟨gp4, fx4, rfl, Lib.hid (((HW.out.2.tr HM2.out).trans HT3.out).trans HT4.out)⟩
 ·rw [if_pos hk]
  have hk' : ¬ (k : Int) = 0 := by omega
  clear hwi hto h hF hq hsize cH hgn hsm
  go_enter Tryz.func153, Tryz.ntmps153
  go_wp2_with (first | (go_at_call 119; refine cC.out.mono ?_; rintro e w2 ⟨rfl, HM2⟩; obtain ⟨u0, u1, u2⟩ := HBX.out _ HM2.out) | (go_at_call 120; refine (cW.out _ HM2.out).mono ?_; rintro e w3 ⟨rfl, HW3, HT3⟩))
  go_ret2
  exact ⟨gp, fx, rfl, Lib.hid ((HW.out.2.tr HM2.out).trans HT3.out)⟩
end
end Go.Proofs.YtkjpdfomppjiiaaGreatDoor
namespace Go.Proofs.YtkjpdfomppjiiaaGreatDoor
open Go.RowKit

theorem info_strI : (Tryz.prog.info? 9).map (fun i => (i.zero, i.size, i.bytes)) = some (some (.string ⟨#[]⟩), 1, 16) := by kernel_rfl
section
variable {W : World} {b p tb mb : Nat} {gp : List Nat} {x : Nat → Nat} {fx : Nat → List Nat} {M : Mi} {B z c : Nat}
theorem mPair_m (h : IsM W b p tb mb gp x fx M) : Calls Tryz.prog 21 #[.pointer (some ⟨b, 0, none⟩)] W fun e w' => e = .returned (.pointer (some ⟨p, 0, none⟩)) ∧ W = w' := by
 have q0 : W.cell? ⟨b, 0, none⟩ = some (.pointer (some ⟨p, 0, none⟩)) := Blk.cell h.blk (i := 0) rfl
 clear h
 go_enter Tryz.func21, Tryz.ntmps21
 go_wp2_with fail
 go_ret
 exact ⟨rfl, rfl⟩
theorem mDegr_m (h : IsM W b p tb mb gp x fx M) : Calls Tryz.prog 24 #[.pointer (some ⟨b, 0, none⟩)] W fun e w' => e = .returned (.bool ((M.P.dev 0).gone || (M.P.dev 1).gone)) ∧ W = w' := by
 have c := rAlive_0 h.pair
 have d := rAlive_1 h.pair
 have q0 : W.cell? ⟨b, 0, none⟩ = some (.pointer (some ⟨p, 0, none⟩)) := Blk.cell h.blk (i := 0) rfl
 generalize (M.P.dev 0).gone = g0 at *
 generalize (M.P.dev 1).gone = g1 at *
 have cA0 := Lib.hid c
 have cA1 := Lib.hid d
 clear h c d
 cases g0 with
 | true =>
  go_enter Tryz.func24, Tryz.ntmps24
  go_wp2_with fail
  refine wp_loop_rounds 1 ?_
  rw [rounds_succ]
  go_wp2_with (go_at_call 56; refine cA0.out.mono ?_; rintro e w' ⟨rfl, rfl⟩)
  go_ret
  exact ⟨rfl, rfl⟩
 | false =>
  cases g1 with
  | true =>
   go_enter Tryz.func24, Tryz.ntmps24
   go_wp2_with fail
   refine wp_loop_rounds 2 ?_
   rw [rounds_succ]
   go_wp2_with (go_at_call 56; refine cA0.out.mono ?_; rintro e w' ⟨rfl, rfl⟩)
   rw [rounds_succ]
   go_wp2_with (go_at_call 56; refine cA1.out.mono ?_; rintro e w' ⟨rfl, rfl⟩)
   go_ret
   exact ⟨rfl, rfl⟩
  | false =>
   go_enter Tryz.func24, Tryz.ntmps24
   go_wp2_with fail
   refine wp_loop_rounds 3 ?_
   rw [rounds_succ]
   go_wp2_with (go_at_call 56; refine cA0.out.mono ?_; rintro e w' ⟨rfl, rfl⟩)
   rw [rounds_succ]
   go_wp2_with (go_at_call 56; refine cA1.out.mono ?_; rintro e w' ⟨rfl, rfl⟩)
   rw [rounds_succ]
   go_wp2_with fail
   go_ret
   exact ⟨rfl, rfl⟩
def Mi.imgsN (M : Mi) (i : Nat) : Nat → List ByteArray
 | 0 => []
 | s + 1 => M.imgsN i s ++ (if (M.P.read s (i : Int)).2 = 0 then [(M.P.read s (i : Int)).1] else [])
theorem Mi.imgs_two (M : Mi) (i : Nat) : M.imgsN i 2 = M.imgs i := by
 unfold Mi.imgs Mi.imgsN Mi.imgsN Mi.imgsN
 rw [List.nil_append]
theorem Mi.imgs_len (M : Mi) (i : Nat) : ∀ s, (M.imgsN i s).length ≤ s
 | 0 => Nat.le_refl _
 | s + 1 => by
  unfold Mi.imgsN
  rw [List.length_append]
  have := Mi.imgs_len M i s
  split
  ·simp; omega
  ·simp; omega
structure ImIn (W w : World) (b p tb mb : Nat) (gp : List Nat) (x : Nat → Nat) (fx : Nat → List Nat) (M : Mi) (A : Option Addr) (n k : Nat) (l : List ByteArray) : Prop where
 to_ : MTo W w b p tb mb gp gp x fx fx M
 len : l.length = n
 own : w.ownsRow 0 9 1 (.slice A n k) n (l.map Value.string)
 new : ∀ g, (Value.slice A n k).ownBlock = some g → W.heap.size ≤ g
theorem ImIn.keep {w w1 : World} {A : Option Addr} {n k : Nat} {l : List ByteArray} (h : ImIn W w b p tb mb gp x fx M A n k l) (hf : ∀ g ∈ b :: mb :: p :: (fx 0 ++ fx 1), g < W.heap.size) (g : MTo w w1 b p tb mb gp gp x fx fx M) : ImIn W w1 b p tb mb gp x fx M A n k l :=
 ⟨h.to_.trans g, h.len, owns_keepF h.own g.mods (fun r hr hx => by have := h.new r hr; have := hf r hx; omega), h.new⟩
theorem ImIn.more {w w2 : World} {A : Option Addr} {n k : Nat} {l : List ByteArray} (h : ImIn W w b p tb mb gp x fx M A n k l) (hW : W.heap.size ≤ w.heap.size) (hf : ∀ g, g = b ∨ g = tb ∨ g = mb ∨ g ∈ gp ∨ g ∈ fx 0 ∨ g ∈ fx 1 → g < W.heap.size) (hn : n < 1000) (I : ByteArray) (hw2 : w.alloc (.cells #[.string I] 9) = w2) :
  ∃ g k' w', (∀ ty, (Builtin.append_ #[101, 101] ty #[.slice A n k, .slice (some ⟨w.heap.size, 0, none⟩) 1 1]).run Tryz.prog w2 = .ok (.slice (some ⟨g, 0, none⟩) (n + 1) k') w') ∧ ImIn W w' b p tb mb gp x fx M (some ⟨g, 0, none⟩) (n + 1) k' (l ++ [I]) := by
 obtain ⟨i0, hi0, hz0, hz1, hz2⟩ := info_parts info_strI
 have hb2 : Blk w2 w.heap.size 9 [.string I] := by rw [← hw2]; exact Blk.new w 9 [.string I]
 have hm2 : Mods [] w w2 := by rw [← hw2]; exact (Mods.refl _ _).alloc _
 have hsz : w2.heap.size = w.heap.size + 1 := by rw [← hw2]; simp
 have hown := owns_keepF h.own hm2 (by simp)
 have hrun := fun ty => append_sharp (P := Tryz.prog) w2 101 ty 9 i0 (.string ⟨#[]⟩) 16 Tryz.underlying101 hi0 hz0 hz1 hz2 (by decide) rfl (.slice A n k) n (l.map Value.string) hown ⟨w.heap.size, 0, none⟩ 1 (.string I) (by rw [addr_add0]; exact hb2.cell rfl) rfl (by omega)
 obtain ⟨g, k', w', hr, h1, h2, h3⟩ := hrun 0
 have hr' : ∀ ty, (Builtin.append_ #[101, 101] ty #[.slice A n k, .slice (some ⟨w.heap.size, 0, none⟩) 1 1]).run Tryz.prog w2 = .ok (.slice (some ⟨g, 0, none⟩) (n + 1) k') w' := fun ty => hr
 have hmod : Mods (Value.slice A n k).ownBlock.toList w2 w' := (Mods.refl _ w2).grown h2 (fun q hq => .inl (by rw [hq]; simp))
 have hfree : ∀ r, r = b ∨ r = tb ∨ r = mb ∨ r ∈ gp ∨ r ∈ fx 0 ∨ r ∈ fx 1 → r ∉ (Value.slice A n k).ownBlock.toList := fun r hr hx => by
  have h5 := h.new r (Option.mem_toList.1 hx)
  have := hf r hr
  omega
 have hI := (h.to_.tr hm2).is
 refine ⟨g, k', w', hr', ⟨⟨hI.keep hmod ⟨hfree _ (.inl rfl), hfree _ (.inr (.inl rfl)), hfree _ (.inr (.inr (.inl rfl)))⟩ (fun r hr => hfree _ (.inr (.inr (.inr (.inl hr))))) (fun s hs r hr => hfree _ (by rcases two_cases hs with rfl | rfl; exact .inr (.inr (.inr (.inr (.inl hr)))); exact .inr (.inr (.inr (.inr (.inr hr)))))), (h.to_.tr hm2).mods.trans hmod (fun r hr => .inr (h.new r (Option.mem_toList.1 hr))), fun _ _ _ hg => .inl hg, fun _ hg => .inl hg⟩, by rw [List.length_append, h.len]; rfl, by rw [List.map_append]; exact h1, fun r hr => ?_⟩⟩
 have e : g = r := by simpa [Value.ownBlock] using hr
 subst e
 rcases h3 with h3 | h3
 ·exact h.new _ h3
 ·omega
set_option maxRecDepth 100000 in
set_option maxHeartbeats 6400000 in
theorem mImages_m (h : IsM W b p tb mb gp x fx M) (hF : Fine B z c M.P) (hc : c ≤ 800000) {i : Nat} (hi : i < B) :
  Calls Tryz.prog 78 #[.pointer (some ⟨b, 0, none⟩), .int .i64 (i : Nat)] W fun e w' => ∃ A k n, e = .returned (.tuple #[.slice A n k, .int .i64 0]) ∧ Hid (ImIn W w' b p tb mb gp x fx M A n k (M.imgs i)) := by
 have cC := Lib.hid (mCheck_m h hF (i : Int))
 rw [if_pos (by omega)] at cC
 have HS := Lib.hid (fun (w : World) (hm : Mods [] W w) => show ImIn W w b p tb mb gp x fx M none 0 0 [] from ⟨MTo.still h hm, rfl, World.ownsRow_nil _ _ _ _, fun g hg => by cases hg⟩)
 have HFO := Lib.hid h.foot
 have HLT : Hid (∀ g, g = b ∨ g = tb ∨ g = mb ∨ g ∈ gp ∨ g ∈ fx 0 ∨ g ∈ fx 1 → g < W.heap.size) := Lib.hid (fun g hg => by
  obtain ⟨l1, l2, l3⟩ := h.lt
  rcases hg with rfl | rfl | rfl | hg | hg | hg
  ·exact l1
  ·exact l2
  ·exact l3
  ·exact h.pair.pb.lt _ hg
  ·exact (h.pair.dev 0 (by decide)).lt _ hg
  ·exact (h.pair.dev 1 (by decide)).lt _ hg)
 rw [← Mi.imgs_two]
 clear h
 go_enter Tryz.func78, Tryz.ntmps78
 go_wp2_with (go_at_call 119; refine cC.out.mono ?_; rintro e w1 ⟨rfl, HM1⟩)
 go_loopw [17, 7] (fun iv ov wr => ∃ (s : Nat) (A : Option Addr) (n k : Nat), s ≤ 2 ∧ iv = .int .i64 (s : Nat) ∧ ov = .slice A n k ∧ ImIn W wr b p tb mb gp x fx M A n k (M.imgsN i s)) (fun iv _ _ => 2 - (intOf iv).toNat)
 case atStart => exact ⟨0, none, 0, 0, by omega, rfl, rfl, HS.out _ HM1.out⟩
 case round =>
  clear HS HM1
  obtain ⟨s, A, n, k, hs, rfl, rfl, hT⟩ := hrel
  have HT := Lib.hid hT
  have hn2 : n < 1000 := by have := Mi.imgs_len M i s; have := hT.len; omega
  have y0 : wr.cell? ⟨b, 0, none⟩ = some (.pointer (some ⟨p, 0, none⟩)) := Blk.cell hT.to_.is.blk (i := 0) rfl
  clear hT
  by_cases hlt : s < 2
  ·have hnx : M.imgsN i (s + 1) = M.imgsN i s ++ (if (M.P.read s (i : Int)).2 = 0 then [(M.P.read s (i : Int)).1] else []) := rfl
   have cRd := Lib.hid ((rRead_m HT.out.to_.is.pair hF hc hlt (i : Int)).mono (R' := fun e w' => e = .returned (.tuple #[.string (M.P.read s (i : Int)).1, .int .i64 ((M.P.read s (i : Int)).2 : Nat)]) ∧ Hid (ImIn W w' b p tb mb gp x fx M A n k (M.imgsN i s))) fun e w' ⟨h1, h2⟩ => ⟨h1, Lib.hid (HT.out.keep HFO.out (HT.out.to_.is.pairTo h2.out))⟩)
   have n6 := hF.read hlt (i : Int)
   generalize M.P.read s (i : Int) = r at *
   obtain ⟨I, ek⟩ := r
   simp only at cRd n6 hnx
   have n6' : ¬ (ek : Int) = 6 := by omega
   by_cases hk : ek = 0
   ·subst hk
    rw [if_pos rfl] at hnx
    have HX := Lib.hid hnx
    clear hnx n6
    go_wp2_with (first | (go_at_call 137; refine cRd.out.mono ?_; rintro e w2 ⟨rfl, H2⟩; obtain ⟨w3, hw3⟩ : ∃ w3, w2.alloc (.cells #[.string I] 9) = w3 := ⟨_, rfl⟩; obtain ⟨g, k', w4, hrun, H4⟩ := H2.out.more H2.out.to_.mods.size HLT.out hn2 I hw3; have HRUN := Lib.hid hrun; have HI4 := Lib.hid H4; clear hrun H4) | (at_builtin; refine wpList_run_append rfl (.tmp 35) (.tmp 37) 101 rfl rfl rfl (HRUN.out _) ?_))
    go_roundw
    case rel => exact ⟨s + 1, some ⟨g, 0, none⟩, n + 1, k', by omega, by go_num, rfl, by rw [HX.out]; exact HI4.out⟩
    case measure => simp [intOf]; omega
   ·have hk' : ¬ (ek : Int) = 0 := by omega
    rw [if_neg hk, List.append_nil] at hnx
    have HX := Lib.hid hnx
    clear hnx n6
    go_wp2_with (go_at_call 137; refine cRd.out.mono ?_; rintro e w2 ⟨rfl, H2⟩)
    go_roundw
    case rel => exact ⟨s + 1, A, n, k, by omega, by go_num, rfl, by rw [HX.out]; exact H2.out⟩
    case measure => simp [intOf]; omega
  ·obtain rfl : s = 2 := by omega
   go_wp2_with fail
   go_ret2
   exact ⟨A, k, n, rfl, HT⟩
end
end Go.Proofs.YtkjpdfomppjiiaaGreatDoor
