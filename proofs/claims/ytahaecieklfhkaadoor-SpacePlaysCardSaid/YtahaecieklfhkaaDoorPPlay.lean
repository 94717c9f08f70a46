/- Plain facts for SpacePlays: the space and the document's space, side by side. No program's function is named here. -/
import Derived.Test.YtahaecieklfhkaaDoorRef2
import Derived.Test.YtahaecieklfhkaaDoorPOnce
namespace Go.Proofs.YtahaecieklfhkaaDoor
open Go.RowKit

/-- What holds of the space of SpacePlays. -/
structure PlayOk (S : Sp) (n : Nat) : Prop where
  first : S.first < n
  used : S.used.length = n
  taken : S.taken.length = n
  given : S.given.length = n
  low : ∀ a, a < S.first → mem S.used a = true
  tk : ∀ a, mem S.taken a = true → S.first ≤ a
  gv : ∀ a, mem S.given a = true → S.first ≤ a

theorem mem_setI_any {u : List Bool} {k : Int} {a : Nat} (h : mem (setI u k true) a = true) : mem u a = true ∨ k = a := by
  unfold setI at h
  split at h
  · rename_i hi
    have := inB_true hi
    rw [mem_set] at h
    split at h
    · right; omega
    · exact .inl h
  · exact .inl h
theorem mem_setI_up {u : List Bool} {k : Int} {a : Nat} (h : mem u a = true) : mem (setI u k true) a = true := by
  unfold setI
  split
  · rw [mem_set]; split
    · rfl
    · exact h
  · exact h

theorem play_new (n first gen last : Nat) (h : first < n) : PlayOk (Sp.new n first gen last) n := by
  refine ⟨h, begun_length n first (by omega), by simp [Sp.new], by simp [Sp.new], fun a ha => ?_, fun a ha => ?_, fun a ha => ?_⟩
  · show mem (begun n first) a = true
    have ha' : a < first := ha
    unfold mem begun
    rw [List.getD_eq_getElem?_getD, List.getElem?_append_left (by simpa using ha')]
    simp [ha']
  · have : mem (Sp.new n first gen last).taken a = false := mem_none n a; rw [this] at ha; cases ha
  · have : mem (Sp.new n first gen last).given a = false := mem_none n a; rw [this] at ha; cases ha
theorem play_take {S : Sp} {n : Nat} (h : PlayOk S n) : PlayOk S.takeS n := by
  cases ht : S.tk with
  | none => rw [Sp.takeS, ht]; exact h
  | some k =>
    obtain ⟨h1, h2, h3, h4⟩ := nextL_iff.1 ht
    have e : S.takeS = { S with used := setI S.used k true, taken := setI S.taken k true } := by rw [Sp.takeS, ht]
    rw [e]
    exact ⟨h.first, by show (setI S.used k true).length = n; rw [setI_length]; exact h.used, by show (setI S.taken k true).length = n; rw [setI_length]; exact h.taken, h.given, fun a ha => mem_setI_up (h.low a ha), fun a ha => by
      rcases mem_setI_any ha with h5 | h5
      · exact h.tk a h5
      · show S.first ≤ a; omega, h.gv⟩
theorem play_give {S : Sp} {n : Nat} (h : PlayOk S n) (k : Int) : PlayOk (S.giveS k) n := by
  unfold Sp.giveS
  split
  · rename_i hc
    split
    · exact ⟨h.first, h.used, h.taken, by show (setI S.given k true).length = n; rw [setI_length]; exact h.given, h.low, h.tk, fun a ha => by
        rcases mem_setI_any ha with h5 | h5
        · exact h.gv a h5
        · show S.first ≤ a
          unfold Sp.chk at hc; split at hc
          · cases hc
          · omega⟩
    · exact h
  · exact h
theorem play_use {S : Sp} {n : Nat} (h : PlayOk S n) (k : Int) : PlayOk (S.useS k) n := by
  unfold Sp.useS
  split
  · exact ⟨h.first, by show (setI S.used k true).length = n; rw [setI_length]; exact h.used, h.taken, h.given, fun a ha => mem_setI_up (h.low a ha), h.tk, h.gv⟩
  · exact h
theorem play_free {S : Sp} {n : Nat} (h : PlayOk S n) {l : List Bool} (hl : ∀ a, mem l a = true → S.first ≤ a) : PlayOk (S.freeS (onL l)) n := by
  have hlen : (minus S.used (onL l)).length = n := by rw [minus_length]; exact h.used
  refine ⟨h.first, hlen, ?_, ?_, fun a ha => ?_, fun a ha => ?_, fun a ha => ?_⟩
  · show (List.replicate (minus S.used (onL l)).length false).length = n; rw [List.length_replicate]; exact hlen
  · show (List.replicate (minus S.used (onL l)).length false).length = n; rw [List.length_replicate]; exact hlen
  · show mem (minus S.used (onL l)) a = true
    have ha' : a < S.first := ha
    rw [mem_minus _ _ _ (by rw [h.used]; have := h.first; omega), mem_onL, h.low a ha']
    cases e : mem l a
    · rfl
    · have := hl a e; omega
  · have : mem (S.freeS (onL l)).taken a = false := mem_none _ a; rw [this] at ha; cases ha
  · have : mem (S.freeS (onL l)).given a = false := mem_none _ a; rw [this] at ha; cases ha
theorem play_step {S : Sp} {n : Nat} (h : PlayOk S n) : PlayOk S.step n := by
  unfold Sp.step; split
  · exact h
  · exact ⟨h.first, h.used, h.taken, h.given, h.low, h.tk, h.gv⟩

/-- The space at b, the document's at c. -/
structure PlayW (w wr : World) (b c : Nat) (S : Sp) (fp fq : List Nat) (n : Nat) : Prop where
  sp : IsSpace wr b fp S
  rf : IsRef wr c fq S n
  ok : PlayOk S n
  mods : Mods [] w wr
  newP : ∀ k ∈ fp, w.heap.size ≤ k
  newQ : ∀ k ∈ fq, w.heap.size ≤ k
  dis : ∀ k ∈ fp, k ∉ fq

theorem PlayW.drewN {w wr : World} {b c n : Nat} {S : Sp} {fp fq : List Nat} (h : PlayW w wr b c S fp fq n) (q : Nat) : PlayW w (wr.drewN q) b c S fp fq n :=
  ⟨h.sp, h.rf, h.ok, h.mods.drewN q, h.newP, h.newQ, h.dis⟩
theorem PlayW.alloc {w wr : World} {b c n : Nat} {S : Sp} {fp fq : List Nat} (h : PlayW w wr b c S fp fq n) (o : Obj) : PlayW w (wr.alloc o) b c S fp fq n := by
  have hm : Mods [] wr (wr.alloc o) := (Mods.refl _ _).alloc _
  exact ⟨h.sp.keep hm (by simp), h.rf.keep hm (by simp), h.ok, h.mods.trans hm (by simp), h.newP, h.newQ, h.dis⟩
/-- After the call on the space: the document's is as it was. -/
theorem PlayW.ref {w wr w1 : World} {b c n : Nat} {S : Sp} {fp fq : List Nat} (h : PlayW w wr b c S fp fq n) (hm : Mods fp wr w1) : IsRef w1 c fq S n := h.rf.keep hm (fun k hk hk2 => h.dis k hk2 hk)
/-- .. and the other way round. -/
theorem PlayW.spc {w wr w1 : World} {b c n : Nat} {S : Sp} {fp fq : List Nat} (h : PlayW w wr b c S fp fq n) (hm : Mods fq wr w1) : IsSpace w1 b fp S := h.sp.keep hm (fun k hk hk2 => h.dis k hk hk2)
/-- Both calls are done: first the space's. -/
theorem PlayW.both {w wr w1 w2 : World} {b c n : Nat} {S S2 : Sp} {fp fq fp2 fq2 : List Nat} (h : PlayW w wr b c S fp fq n) (hm1 : Mods fp wr w1) (hs : IsSpace w1 b fp2 S2) (hf : ∀ k ∈ fp2, k ∈ fp ∨ wr.heap.size ≤ k)
    (hm2 : Mods fq w1 w2) (hr : IsRef w2 c fq2 S2 n) (hg : ∀ k ∈ fq2, k ∈ fq ∨ w1.heap.size ≤ k) (ok : PlayOk S2 n) : PlayW w w2 b c S2 fp2 fq2 n := by
  have hs1 := h.mods.size
  have hs2 := hm1.size
  have hlt := hs.lt
  have hqlt := h.rf.lt
  have hd : ∀ k ∈ fp2, k ∉ fq := fun k hk hk2 => by
    rcases hf k hk with h1 | h1
    · exact h.dis k h1 hk2
    · have := hqlt k hk2; omega
  refine ⟨hs.keep hm2 hd, hr, ok, (h.mods.trans hm1 (fun k hk => .inr (h.newP k hk))).trans hm2 (fun k hk => .inr (h.newQ k hk)), fun k hk => ?_, fun k hk => ?_, fun k hk hk2 => ?_⟩
  · rcases hf k hk with h1 | h1
    · exact h.newP k h1
    · omega
  · rcases hg k hk with h1 | h1
    · exact h.newQ k h1
    · omega
  · rcases hg k hk2 with h1 | h1
    · exact hd k hk h1
    · have := hlt k hk; omega
/-- First the document's; neither grows. -/
theorem PlayW.both2 {w wr w1 w2 : World} {b c n : Nat} {S S2 : Sp} {fp fq : List Nat} (h : PlayW w wr b c S fp fq n) (hm1 : Mods fq wr w1) (hr : IsRef w1 c fq S2 n) (hm2 : Mods fp w1 w2) (hs : IsSpace w2 b fp S2) (ok : PlayOk S2 n) : PlayW w w2 b c S2 fp fq n :=
  ⟨hs, hr.keep hm2 (fun k hk hk2 => h.dis k hk2 hk), ok, (h.mods.trans hm1 (fun k hk => .inr (h.newQ k hk))).trans hm2 (fun k hk => .inr (h.newP k hk)), h.newP, h.newQ, h.dis⟩

theorem take_count (l : List Bool) (k : Nat) (hk : k < l.length) : (l.take (k + 1)).count false = (l.take k).count false + (if mem l k then 0 else 1) := by
  rw [List.take_succ_eq_append_getElem hk, List.count_append, mem_get hk]
  cases l[k] <;> simp
theorem memI_out {l : List Bool} {n : Nat} (h : l.length = n) : memI l (-1) = false ∧ memI l (n : Int) = false := by
  subst h
  exact ⟨by simp [memI, inB], by simp [memI, inB]⟩
theorem IsRef.seen {w : World} {b n : Nat} {fp : List Nat} {S : Sp} (h : IsRef w b fp S n) : ∃ bu cu, w.cell? ⟨b, 0, none⟩ = some (.slice (some ⟨bu, 0, none⟩) n cu) ∧ w.cell? ⟨b, 4, none⟩ = some (.int .u64 S.gen) ∧ ∀ k, k < n → w.cell? ⟨bu, k, none⟩ = some (.bool (mem S.used k)) := by
  obtain ⟨bu, bt, bg, cu, ct, cg, rfl, h0, h1, h2, h3, h4, h5⟩ := h
  exact ⟨bu, cu, h1.cell (i := 0) rfl, h1.cell (i := 4) rfl, fun k hk => h2.cell (by rw [h5.1]; exact hk)⟩
theorem cell_keep1 {w w1 : World} {L : List Nat} {p : Addr} {v : Value} (hm : Mods L w w1) (h : w.cell? p = some v) (hlt : p.block < w.heap.size) (hn : p.block ∉ L) : w1.cell? p = some v := (hm.cell hlt hn).trans h
theorem cell_keep2 {w w1 w2 : World} {L L2 : List Nat} {p : Addr} {v : Value} (hm : Mods L w w1) (hm2 : Mods L2 w1 w2) (h : w.cell? p = some v) (hlt : p.block < w.heap.size) (hn : p.block ∉ L) (hn2 : p.block ∉ L2) : w2.cell? p = some v :=
  (hm2.cell (Nat.lt_of_lt_of_le hlt hm.size) hn2).trans ((hm.cell hlt hn).trans h)
end Go.Proofs.YtahaecieklfhkaaDoor
