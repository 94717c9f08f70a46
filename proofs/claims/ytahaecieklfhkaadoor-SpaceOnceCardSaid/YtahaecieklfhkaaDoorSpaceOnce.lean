/- SpaceOnce: for every list of bytes the law answers true: no block is taken while somebody has it. No condition but the form's own and the table's of math/bits, which the card ties to the program's text. -/
import Derived.Test.YtahaecieklfhkaaDoorLaid
import Derived.Test.YtahaecieklfhkaaDoorLawPost
import Derived.Test.YtahaecieklfhkaaDoorArgs
import Derived.Test.YtahaecieklfhkaaDoorPOnce
namespace Go.Proofs.YtahaecieklfhkaaDoor
open Go.ChangeShapes Go.WideShapes Go.ChangeAt Go.RowKit

theorem zeroBoolJ (w : World) : (zeroValue 4).run Tryd.prog w = .ok (.bool false) w := by kernel_rfl
theorem SF_getD (g : Nat → Bool) (k : Nat) : (SF g (k : Int)).getD (.bool false) = .bool (g k) := by
  unfold SF
  by_cases h : g k = true
  · rw [if_pos ⟨by omega, by rw [Int.toNat_natCast]; exact h⟩, h]; rfl
  · rw [if_neg (fun e => h (by have := e.2; rwa [Int.toNat_natCast] at this))]
    have : g k = false := by simpa using h
    rw [this]; rfl
theorem SF_isSome (g : Nat → Bool) (k : Nat) : (SF g (k : Int)).isSome = g k := by
  have h := SF_getD g k
  cases e : SF g (k : Int) with
  | none => rw [e] at h; injection h
  | some v =>
    obtain ⟨_, h2, _⟩ := SF_some.1 e
    rw [Int.toNat_natCast] at h2; rw [h2]; rfl
theorem SF_put1 {g g2 : Nat → Bool} {k : Nat} (h : ∀ a, g2 a = ((a == k) || g a)) : putF (SF g) (k : Int) (.bool true) = SF g2 := by
  funext x
  unfold putF SF
  by_cases hx : x = (k : Int)
  · subst hx
    rw [if_pos rfl, if_pos ⟨by omega, by rw [Int.toNat_natCast, h]; simp⟩]
  · rw [if_neg hx]
    by_cases h0 : 0 ≤ x
    · have : (x.toNat == k) = false := by simp; omega
      rw [h, this, Bool.false_or]
    · rw [if_neg (fun e => h0 e.1), if_neg (fun e => h0 e.1)]

/-- The space and the law's three maps, and where they lie. -/
structure OnceW (w wr : World) (b bH bT bG : Nat) (S : Sp) (fp : List Nat) : Prop where
  sp : IsSpace wr b fp S
  ok : OnceOk S
  had : ∃ n, MapK kvJ wr bH (SF (hadG S)) n
  taken : ∃ n, MapK kvJ wr bT (SF (mem S.taken)) n
  given : ∃ n, MapK kvJ wr bG (SF (mem S.given)) n
  mods : Mods [] w wr
  new : ∀ k ∈ fp, w.heap.size ≤ k
  newH : w.heap.size ≤ bH
  newT : w.heap.size ≤ bT
  newG : w.heap.size ≤ bG
  offH : bH ∉ fp
  offT : bT ∉ fp
  offG : bG ∉ fp
  hT : bH ≠ bT
  hG : bH ≠ bG
  tG : bT ≠ bG

theorem OnceW.drewN {w wr : World} {b bH bT bG : Nat} {S : Sp} {fp : List Nat} (h : OnceW w wr b bH bT bG S fp) (q : Nat) : OnceW w (wr.drewN q) b bH bT bG S fp :=
  ⟨h.sp, h.ok, h.had, h.taken, h.given, h.mods.drewN q, h.new, h.newH, h.newT, h.newG, h.offH, h.offT, h.offG, h.hT, h.hG, h.tG⟩
/-- How many are had. -/
theorem OnceW.cnt {w wr : World} {b bH bT bG : Nat} {S : Sp} {fp : List Nat} (h : OnceW w wr b bH bT bG S fp) {n : Nat} (hn : MapK kvJ wr bH (SF (hadG S)) n) : n + S.used.count false = 8 := by
  rw [hn.count (fun a ha => hadG_out h.ok a ha)]
  exact once_count h.ok
/-- A call that changes the space alone. -/
theorem OnceW.call {w wr w1 : World} {b bH bT bG : Nat} {S S2 : Sp} {fp : List Nat} (h : OnceW w wr b bH bT bG S fp) (hm : Mods fp wr w1) (hs : IsSpace w1 b fp S2) :
    IsSpace w1 b fp S2 ∧ (∃ n, MapK kvJ w1 bH (SF (hadG S)) n) ∧ (∃ n, MapK kvJ w1 bT (SF (mem S.taken)) n) ∧ (∃ n, MapK kvJ w1 bG (SF (mem S.given)) n) ∧ Mods [] w w1 :=
  ⟨hs, by obtain ⟨n, hn⟩ := h.had; exact ⟨n, hn.keep hm h.offH⟩, by obtain ⟨n, hn⟩ := h.taken; exact ⟨n, hn.keep hm h.offT⟩, by obtain ⟨n, hn⟩ := h.given; exact ⟨n, hn.keep hm h.offG⟩, h.mods.trans hm (fun k hk => .inr (h.new k hk))⟩

/-- How many entries a range has to come, by the world. -/
def leftW (w : World) (r b : Nat) : Nat := match w.heap[r]?, w.heap[b]? with
  | some (.mapIter _ _ seen _), some (.map es _) => (leftOf es seen).size
  | _, _ => 0
theorem RangeK.leftW {κ : Type} {kv : κ → Value} {w : World} {r b : Nat} {F : κ → Option Value} {D : κ → Prop} {left : Nat} (h : RangeK kv w r b F D left) : leftW w r b = left := by
  obtain ⟨es, clock, since, seen, c0, h1, h2, h3, h4, h5, h6, h7, h8, h9, h10⟩ := h
  unfold Go.Proofs.YtahaecieklfhkaaDoor.leftW
  rw [h1, h5]; exact h10

/-- The entries of the map in block g are taken out of the map in block h: so far. -/
structure OutW (wr : World) (r bg bH : Nat) (g0 h0 : Nat → Bool) (left : Nat) : Prop where
  ex : ∃ D n F, RangeK kvJ wr r bg (SF g0) D left ∧ MapK kvJ wr bH F n ∧ ∀ a, (D a → F a = none ∧ SF g0 a ≠ none) ∧ (¬ D a → F a = SF h0 a)

theorem OutW.start {wr : World} {r bg bH : Nat} {g0 h0 : Nat → Bool} {left n : Nat} (h1 : RangeK kvJ wr r bg (SF g0) (fun _ => False) left) (h2 : MapK kvJ wr bH (SF h0) n) : OutW wr r bg bH g0 h0 left :=
  ⟨_, n, _, h1, h2, fun _ => ⟨fun h => h.elim, fun _ => rfl⟩⟩
theorem OutW.step {P : Program} {T K E : TypeId} {wr : World} {r bg bH : Nat} {g0 h0 : Nat → Bool} {left : Nat} (h : OutW wr r bg bH g0 h0 left) (hrg : r ≠ bg) (hrH : r ≠ bH) (hgH : bg ≠ bH) (hT : P.underlying T = some (.map K E)) (hK : P.underlying K = some (.int .i64)) :
    ((∀ t1, (Instr.next (.pointer (some ⟨r, 0, none⟩)) false t1).run P wr = .ok (.tuple #[.bool false]) wr) ∧ ∃ n, MapK kvJ wr bH (SF (fun a => h0 a && !g0 a)) n) ∨
    ∃ (a : Int) (v : Value) (w1 w2 : World) (left1 : Nat), (∀ t1, (Instr.next (.pointer (some ⟨r, 0, none⟩)) false t1).run P wr = .ok (.tuple #[.bool true, .int .i64 a, v]) w1) ∧ (Instr.entry (.pointer (some ⟨r, 0, none⟩))).run P w1 = .ok (.tuple #[.int .i64 a, v]) w1 ∧
      (∀ t2, (Builtin.delete_ #[T, K] t2 #[.map (some bH), .int .i64 a]).run P w1 = .ok (.tuple #[]) w2) ∧ OutW w2 r bg bH g0 h0 left1 ∧ left1 < left ∧ Mods [r, bH] wr w2 ∧ w2.heap.size = wr.heap.size := by
  obtain ⟨D, n, F, h1, h2, h3⟩ := h
  rcases h1.next (P := P) kvJ_inj hrg 0 with ⟨_, hall, hrun⟩ | ⟨a, v, w1, left1, hv, hD, hrun, hent, hR1, hl, hm1, hz1⟩
  · refine .inl ⟨fun _ => hrun, n, ?_⟩
    have e : F = SF (fun a => h0 a && !g0 a) := by
      funext x
      by_cases hx : D x
      · rw [((h3 x).1 hx).1]
        have hne := ((h3 x).1 hx).2
        unfold SF at hne ⊢
        by_cases hc : 0 ≤ x ∧ g0 x.toNat = true
        · rw [if_neg]; rintro ⟨_, e2⟩; simp [hc.2] at e2
        · rw [if_neg hc] at hne; exact absurd rfl hne
      · rw [(h3 x).2 hx]
        have hg : SF g0 x = none := by
          cases e : SF g0 x with
          | none => rfl
          | some u => exact absurd (hall x (by rw [e]; simp)) hx
        unfold SF at hg ⊢
        by_cases hc : 0 ≤ x ∧ g0 x.toNat = true
        · rw [if_pos hc] at hg; cases hg
        · by_cases h0x : 0 ≤ x
          · have : g0 x.toNat = false := by
              cases e : g0 x.toNat
              · rfl
              · exact absurd ⟨h0x, e⟩ hc
            simp [this]
          · rw [if_neg (fun e => h0x e.1), if_neg (fun e => h0x e.1)]
    rw [← e]; exact h2
  · have h2' := h2.keep hm1 (by simpa using Ne.symm hrH)
    obtain ⟨w2, hdel, hM2, hm2, hz2⟩ := h2'.delete (P := P) (T := T) (K := K) (E := E) (ty := 0) (d := .int .i64) kvJ_key kvJ_inj hT hK a
    refine .inr ⟨a, v, w1, w2, left1, fun _ => hrun, hent, fun _ => hdel, ⟨_, _, _, hR1.keep hm2 (by simpa using hrH) (by simpa using hgH), hM2, fun c => ⟨?_, ?_⟩⟩, hl, (hm1.mono (by simp)).trans (hm2.mono (L1 := [r, bH]) (by simp)) (fun k hk => .inl hk), by rw [hz2, hz1]⟩
    · rintro (hc | rfl)
      · refine ⟨?_, ((h3 c).1 hc).2⟩
        unfold delF
        split
        · rfl
        · exact ((h3 c).1 hc).1
      · exact ⟨by simp [delF], by rw [hv]; simp⟩
    · intro hn
      have hca : c ≠ a := fun e => hn (.inr e)
      unfold delF
      rw [if_neg hca]
      exact (h3 c).2 (fun e => hn (.inl e))

/-- A Take that answers. -/
theorem OnceW.take {w wr w1 w2 w3 : World} {b bH bT bG k : Nat} {S : Sp} {fp : List Nat} (h : OnceW w wr b bH bT bG S fp) (ht : S.tk = some k) (hm : Mods fp wr w1) (hs : IsSpace w1 b fp S.takeS)
    (hm2 : Mods [bH] w1 w2) (hm3 : Mods [bT] w2 w3) (hH : ∃ n, MapK kvJ w2 bH (putF (SF (hadG S)) (k : Int) (.bool true)) n) (hT : ∃ n, MapK kvJ w3 bT (putF (SF (mem S.taken)) (k : Int) (.bool true)) n) : OnceW w w3 b bH bT bG S.takeS fp := by
  obtain ⟨_, _, _, ok2, eh, et, eg⟩ := once_take h.ok ht
  obtain ⟨nH, hH⟩ := hH
  obtain ⟨nT, hT⟩ := hT
  obtain ⟨nG, hG⟩ := h.given
  have a1 : ∀ x ∈ fp, x ∉ [bH] := fun x hx e => by simp at e; subst e; exact h.offH hx
  have a2 : ∀ x ∈ fp, x ∉ [bT] := fun x hx e => by simp at e; subst e; exact h.offT hx
  refine ⟨(hs.keep hm2 a1).keep hm3 a2, ok2, ⟨nH, ?_⟩, ⟨nT, ?_⟩, ⟨nG, ?_⟩, ((h.mods.trans hm (fun k hk => .inr (h.new k hk))).trans hm2 (fun k hk => by simp at hk; subst hk; exact .inr h.newH)).trans hm3 (fun k hk => by simp at hk; subst hk; exact .inr h.newT), h.new, h.newH, h.newT, h.newG, h.offH, h.offT, h.offG, h.hT, h.hG, h.tG⟩
  · rw [← SF_put1 eh]; exact hH.keep hm3 (by simpa using h.hT)
  · rw [← SF_put1 et]; exact hT
  · rw [eg]; exact ((hG.keep hm h.offG).keep hm2 (by simpa using h.hG.symm)).keep hm3 (by simpa using h.tG.symm)

theorem OnceW.sameS {w wr w1 : World} {b bH bT bG : Nat} {S : Sp} {fp : List Nat} (h : OnceW w wr b bH bT bG S fp) (hm : Mods fp wr w1) (hs : IsSpace w1 b fp S) : OnceW w w1 b bH bT bG S fp := by
  obtain ⟨h1, h2, h3, h4, h5⟩ := h.call hm hs
  exact ⟨h1, h.ok, h2, h3, h4, h5, h.new, h.newH, h.newT, h.newG, h.offH, h.offT, h.offG, h.hT, h.hG, h.tG⟩

/-- A Give of one that is had. -/
theorem OnceW.give {w wr w1 w2 : World} {b bH bT bG k : Nat} {S : Sp} {fp : List Nat} (h : OnceW w wr b bH bT bG S fp) (hk : k < 9) (hh : hadG S k = true) (hm : Mods fp wr w1) (hs : IsSpace w1 b fp (S.giveS k))
    (hm2 : Mods [bG] w1 w2) (hG : ∃ n, MapK kvJ w2 bG (putF (SF (mem S.given)) (k : Int) (.bool true)) n) : OnceW w w2 b bH bT bG (S.giveS k) fp := by
  obtain ⟨ok2, eu, et, eg⟩ := (once_give h.ok hk).2.2 hh
  obtain ⟨nH, hH⟩ := h.had
  obtain ⟨nT, hT⟩ := h.taken
  obtain ⟨nG, hG⟩ := hG
  have a1 : ∀ x ∈ fp, x ∉ [bG] := fun x hx e => by simp at e; subst e; exact h.offG hx
  have eh : hadG (S.giveS k) = hadG S := by funext a; unfold hadG; rw [eu]
  refine ⟨hs.keep hm2 a1, ok2, ⟨nH, ?_⟩, ⟨nT, ?_⟩, ⟨nG, ?_⟩, (h.mods.trans hm (fun k hk => .inr (h.new k hk))).trans hm2 (fun k hk => by simp at hk; subst hk; exact .inr h.newG), h.new, h.newH, h.newT, h.newG, h.offH, h.offT, h.offG, h.hT, h.hG, h.tG⟩
  · rw [eh]; exact (hH.keep hm h.offH).keep hm2 (by simpa using h.hG)
  · rw [et]; exact (hT.keep hm h.offT).keep hm2 (by simpa using h.tG)
  · rw [← SF_put1 eg]; exact hG

/-- Settle, Undo: two new maps. -/
theorem OnceW.free {w w5 : World} {b bH : Nat} {S : Sp} {l : List Bool} {fp1 : List Nat} (ok : OnceOk S) (hl : ∀ a, mem l a = true → hadG S a = true) (hs : IsSpace w5 b fp1 (S.freeS (onL l)))
    (hH : ∃ n, MapK kvJ w5 bH (SF (fun a => hadG S a && !mem l a)) n) (hM : Mods [] w w5) (hnew : ∀ k ∈ fp1, w.heap.size ≤ k) (hnH : w.heap.size ≤ bH) (hoff : bH ∉ fp1) :
    OnceW w ((w5.alloc (.map #[] 0)).alloc (.map #[] 0)) b bH w5.heap.size (w5.heap.size + 1) (S.freeS (onL l)) fp1 := by
  obtain ⟨ok2, eh, et, eg⟩ := once_free ok hl
  obtain ⟨nH, hH⟩ := hH
  have hlt := hs.lt
  have hHl := hH.lt
  have hm1 : Mods [] w5 (w5.alloc (.map #[] 0)) := (Mods.refl _ _).alloc _
  have hm2 : Mods [] (w5.alloc (.map #[] 0)) ((w5.alloc (.map #[] 0)).alloc (.map #[] 0)) := (Mods.refl _ _).alloc _
  have hm12 := hm1.trans hm2 (by simp)
  have hsz := hM.size
  have e1 : SF (mem (S.freeS (onL l)).taken) = fun _ => none := by funext x; unfold SF; rw [if_neg]; rintro ⟨_, e⟩; rw [et] at e; cases e
  have e2 : SF (mem (S.freeS (onL l)).given) = fun _ => none := by funext x; unfold SF; rw [if_neg]; rintro ⟨_, e⟩; rw [eg] at e; cases e
  have e3 : SF (hadG (S.freeS (onL l))) = SF (fun a => hadG S a && !mem l a) := by congr 1; funext a; exact eh a
  refine ⟨hs.keep hm12 (by simp), ok2, ⟨nH, ?_⟩, ⟨0, ?_⟩, ⟨0, ?_⟩, hM.trans hm12 (by simp), hnew, hnH, hsz, by omega, hoff, fun h => by have := hlt _ h; omega, fun h => by have := hlt _ h; omega, by omega, by omega, by omega⟩
  · rw [e3]; exact hH.keep hm12 (by simp)
  · rw [e1]; exact (MapK.made w5).keep hm2 (by simp)
  · rw [e2]; have := MapK.made (w5.alloc (.map #[] 0)) (kv := kvJ); simpa using this

set_option maxHeartbeats 4000000 in
set_option maxRecDepth 100000 in
theorem spaceOnce_walk (A : Option Addr) (len cap : Nat) (zs : List Nat) (w : World) (hT : Tab w) (hr : Row w A (u8sOf zs)) (hz : zs.length = len) (hlc : len ≤ cap) (hzb : ∀ z ∈ zs, z < 256) :
    Calls Tryd.prog 8 #[.slice A len cap] w fun e w' => e = .returned (.bool true) ∧ Mods [] w w' := by
  have hTl := hT.lt
  have HT := Lib.hid hT
  have HR := Lib.hid hr
  have HZ := Lib.hid hzb
  have HL := Lib.hid hz
  have hnew := spNew_any w 9 1 0 0 (by omega) (by omega) (by omega) (by omega)
  have HNew := Lib.hid hnew
  clear hT hr hzb hz hnew
  obtain ⟨p, hp⟩ : ∃ p : Nat, (if (80 : Int) < (len : Int) then (80 : Int) else (len : Int)) = (p : Int) := ⟨min 80 len, by split <;> omega⟩
  have hpl : p ≤ len := by have := hp; split at this <;> omega
  have hp100 : p ≤ 80 := by have := hp; split at this <;> omega
  obtain ⟨i8, hi8, _, _, _⟩ := info_parts info_u8
  have hsl := fun (k : Int) (h0 : 0 ≤ k) (h1 : k ≤ cap) (W : World) => run_prefix Tryd.prog 22 5 i8 A len cap k W Tryd.underlying22 hi8 h0 h1
  have hmm := fun W => run_makeMap (P := Tryd.prog) 30 W
  go_enter Tryd.func8, Tryd.ntmps8
  go_wp2_with fail
  refine HNew.out.mono ?_
  rintro e w1 ⟨b, fp0, rfl, hm1, hs1, hf1⟩
  have HT1 := Lib.hid (HT.out.keep hm1 (by simp))
  have HS1 := Lib.hid hs1
  have HM1 := Lib.hid hm1
  have HF1 := Lib.hid hf1
  clear hm1 hs1 hf1
  go_wp2_with fail
  refine (w10_any _ HT1.out).mono ?_
  rintro e w3 ⟨rfl, hm3⟩
  have HS3 := Lib.hid (HS1.out.keep hm3 (by simp))
  have HM3 := Lib.hid (HM1.out.trans hm3 (by simp))
  clear hm3 HS1 HM1 HT1
  go_wp2_with fail
  obtain ⟨bH, hbH⟩ : ∃ bH, w3.heap.size = bH := ⟨_, rfl⟩
  obtain ⟨W4, hW4⟩ : ∃ W4 : World, W4 = ((w3.alloc (.map #[] 0)).alloc (.map #[] 0)).alloc (.map #[] 0) := ⟨_, rfl⟩
  have hlt3 := HS3.out.lt
  have hsz3 := HM3.out.size
  have ha1 : Mods [] w3 (w3.alloc (.map #[] 0)) := (Mods.refl _ _).alloc _
  have ha2 : Mods [] (w3.alloc (.map #[] 0)) ((w3.alloc (.map #[] 0)).alloc (.map #[] 0)) := (Mods.refl _ _).alloc _
  have ha3 : Mods [] ((w3.alloc (.map #[] 0)).alloc (.map #[] 0)) W4 := by rw [hW4]; exact (Mods.refl _ _).alloc _
  have hW : OnceW w W4 b bH (bH + 1) (bH + 1 + 1) (Sp.new 9 1 0 0) fp0 := by
    obtain ⟨m1, m2, m3⟩ := once_new_maps
    have k1 := (((MapK.made w3).keep ha2 (by simp)).keep ha3 (by simp) : MapK kvJ W4 w3.heap.size _ _)
    have k2 := ((MapK.made (w3.alloc (.map #[] 0))).keep ha3 (by simp) : MapK kvJ W4 _ _ _)
    have k3 := (MapK.made ((w3.alloc (.map #[] 0)).alloc (.map #[] 0)) : MapK kvJ _ _ _ _)
    rw [← hW4] at k3
    have z2 : (w3.alloc (.map #[] 0)).heap.size = bH + 1 := by simp [hbH]
    have z3 : ((w3.alloc (.map #[] 0)).alloc (.map #[] 0)).heap.size = bH + 1 + 1 := by simp [hbH]
    rw [hbH] at k1
    rw [z2] at k2
    rw [z3] at k3
    have e1 : SF (hadG (Sp.new 9 1 0 0)) = fun _ => none := by funext x; unfold SF; rw [if_neg]; rintro ⟨_, e⟩; rw [m1] at e; cases e
    have e2 : SF (mem (Sp.new 9 1 0 0).taken) = fun _ => none := by funext x; unfold SF; rw [if_neg]; rintro ⟨_, e⟩; rw [m2] at e; cases e
    have e3 : SF (mem (Sp.new 9 1 0 0).given) = fun _ => none := by funext x; unfold SF; rw [if_neg]; rintro ⟨_, e⟩; rw [m3] at e; cases e
    exact ⟨((HS3.out.keep ha1 (by simp)).keep ha2 (by simp)).keep ha3 (by simp), once_new, ⟨0, by rw [e1]; exact k1⟩, ⟨0, by rw [e2]; exact k2⟩, ⟨0, by rw [e3]; exact k3⟩, ((HM3.out.trans ha1 (by simp)).trans ha2 (by simp)).trans ha3 (by simp), HF1.out, by omega, by omega, by omega,
      fun h => by have := hlt3 _ h; omega, fun h => by have := hlt3 _ h; omega, fun h => by have := hlt3 _ h; omega, by omega, by omega, by omega⟩
  have HW := Lib.hid hW
  rw [hbH, ← hW4]
  clear hp hsl hW ha1 ha2 ha3 hlt3 hsz3 hW4 HS3 HM3 HF1 HNew
  clear hbH
  go_loopw [6, 7, 39] (fun tv gv iv wr => ∃ i bT bG : Nat, i ≤ p ∧ tv = .map (some bT) ∧ gv = .map (some bG) ∧ iv = .int .i64 i ∧ ∃ S fp, OnceW w wr b bH bT bG S fp)
    (fun _ _ iv _ => p - (intOf iv).toNat)
  case atStart => exact ⟨0, _, _, Nat.zero_le _, rfl, rfl, rfl, _, _, HW.out⟩
  case round =>
    obtain ⟨i, bT, bG, hi, rfl, rfl, rfl, S, fp, hW⟩ := hrel
    clear HW
    by_cases hlt : i < p
    · have hzi : i < zs.length := by have := HL.out; omega
      obtain ⟨bz, oz, rfl, hcell⟩ := (HR.out.keep hW.mods (fun _ _ => by simp)).at (i := i) (u := .int .u8 (zs[i] : Nat)) (by simp [u8sOf, hzi])
      have hzlt := HZ.out _ (List.getElem_mem hzi)
      generalize zs[i] = z at *
      have HT0 := Lib.hid (HT.out.keep hW.mods (by simp))
      have hsp := hW.sp
      have hok := hW.ok
      obtain ⟨k, hk⟩ : ∃ k : Nat, (z : Int) / 8 % 9 = (k : Int) := ⟨z / 8 % 9, by omega⟩
      have hk9 : k < 9 := by omega
      have hr8 : (z : Int) % 8 = 0 ∨ (z : Int) % 8 = 1 ∨ (z : Int) % 8 = 2 ∨ (z : Int) % 8 = 3 ∨ (z : Int) % 8 = 4 ∨ (z : Int) % 8 = 5 ∨ (z : Int) % 8 = 6 ∨ (z : Int) % 8 = 7 := by omega
      have HW0 := Lib.hid hW
      have HSP := Lib.hid hsp
      have HOK := Lib.hid hok
      clear hW hsp hok HL
      rcases hr8 with h8 | h8 | h8 | h8 | h8 | h8 | h8 | h8
      · cases ht : S.tk with
        | some kk =>
          obtain ⟨t1, t2, t3, _⟩ := once_take HOK.out ht
          have htk := spTake_yes HSP.out HT0.out kk _ ht rfl
          have HTK := Lib.hid htk
          have HTt := Lib.hid ht
          have H3 := Lib.hid t3
          have hk0 : ((kk : Int) == 0) = false := by simp; omega
          have hk1 : decide ((kk : Int) = 0) = false := by simp; omega
          clear htk ht t3
          go_wp2_with fail
          refine HTK.out.mono ?_
          rintro e w1 ⟨rfl, hm1, hs1⟩
          obtain ⟨_, ⟨nH, hH⟩, ⟨nT, hTk⟩, _, _⟩ := HW0.out.call hm1 hs1
          have hlook := hH.lookup (P := Tryd.prog) (T := 30) (K := 3) (E := 4) (d := .int .i64) kvJ_key Tryd.underlying30 Tryd.underlying3 (zeroBoolJ w1) (kk : Int) false
          simp only [Bool.false_eq_true, if_false, SF_getD, H3.out, kvJ] at hlook
          obtain ⟨W2, hrun2, hH2, hm2, _⟩ := hH.update (P := Tryd.prog) (T := 30) (K := 3) (E := 4) (d := .int .i64) kvJ_key kvJ_inj Tryd.underlying30 Tryd.underlying3 (kk : Int) (.bool true)
          obtain ⟨W3, hrun3, hT3, hm3, _⟩ := (hTk.keep hm2 (by simpa using HW0.out.hT.symm)).update (P := Tryd.prog) (T := 30) (K := 3) (E := 4) (d := .int .i64) kvJ_key kvJ_inj Tryd.underlying30 Tryd.underlying3 (kk : Int) (.bool true)
          have HW := Lib.hid (HW0.out.take HTt.out hm1 hs1 hm2 hm3 ⟨_, hH2⟩ ⟨_, hT3⟩)
          simp only [kvJ] at hrun2 hrun3
          clear hm1 hs1 hH hTk hH2 hm2 hT3 hm3 HTK
          go_wp2_with fail
          obtain ⟨nX, hnX⟩ := HW.out.had
          have hcn := HW.out.cnt hnX
          have hfr := spFree_any HW.out.sp
          obtain ⟨c, hc⟩ : ∃ c, (S.takeS).used.count false = c := ⟨_, rfl⟩
          rw [hc] at hfr hcn
          have HFR := Lib.hid hfr
          have hlen := fun (q : Nat) (ty : TypeId) => (hnX.drewN q).len (P := Tryd.prog) (T := 30) (K := 3) (E := 4) Tryd.underlying30 ty
          have e8 : IntKind.i64.wrap (8 - (nX : Int)) = (c : Int) := by rw [IntWalk.i64_in _ (by omega)]; omega
          clear hnX hcn hfr hc
          go_wp2_with fail
          refine HFR.out.mono ?_
          rintro e w' ⟨rfl, q, rfl⟩
          go_wp2_with fail
          go_roundw
          case rel => exact ⟨i + 1, bT, bG, by omega, rfl, rfl, by go_num, _, _, HW.out.drewN q⟩
          case measure => simp [intOf]; omega
        | none =>
          obtain ⟨t1, t2⟩ := once_full HOK.out ht
          have htk := spTake_no HSP.out HT0.out _ ht t2
          have HTK := Lib.hid htk
          have H1 := Lib.hid t1
          clear htk ht t1 t2
          go_wp2_with fail
          refine HTK.out.mono ?_
          rintro e w1 ⟨rfl, hm1, hs1⟩
          have HW := Lib.hid (HW0.out.sameS hm1 hs1)
          obtain ⟨nH, hH⟩ := HW.out.had
          have hc8 := HW.out.cnt hH
          rw [H1.out] at hc8
          obtain rfl : nH = 8 := by omega
          have hlen0 := fun (ty : TypeId) => hH.len (P := Tryd.prog) (T := 30) (K := 3) (E := 4) Tryd.underlying30 ty
          clear hm1 hs1 HTK H1 hH hc8
          go_wp2_with fail
          obtain ⟨nX, hnX⟩ := HW.out.had
          have hcn := HW.out.cnt hnX
          have hfr := spFree_any HW.out.sp
          obtain ⟨c, hc⟩ : ∃ c, (S).used.count false = c := ⟨_, rfl⟩
          rw [hc] at hfr hcn
          have HFR := Lib.hid hfr
          have hlen := fun (q : Nat) (ty : TypeId) => (hnX.drewN q).len (P := Tryd.prog) (T := 30) (K := 3) (E := 4) Tryd.underlying30 ty
          have e8 : IntKind.i64.wrap (8 - (nX : Int)) = (c : Int) := by rw [IntWalk.i64_in _ (by omega)]; omega
          clear hnX hcn hfr hc
          go_wp2_with fail
          refine HFR.out.mono ?_
          rintro e w' ⟨rfl, q, rfl⟩
          go_wp2_with fail
          go_roundw
          case rel => exact ⟨i + 1, bT, bG, by omega, rfl, rfl, by go_num, _, _, HW.out.drewN q⟩
          case measure => simp [intOf]; omega
      · cases ht : S.tk with
        | some kk =>
          obtain ⟨t1, t2, t3, _⟩ := once_take HOK.out ht
          have htk := spTake_yes HSP.out HT0.out kk _ ht rfl
          have HTK := Lib.hid htk
          have HTt := Lib.hid ht
          have H3 := Lib.hid t3
          have hk0 : ((kk : Int) == 0) = false := by simp; omega
          have hk1 : decide ((kk : Int) = 0) = false := by simp; omega
          clear htk ht t3
          go_wp2_with fail
          refine HTK.out.mono ?_
          rintro e w1 ⟨rfl, hm1, hs1⟩
          obtain ⟨_, ⟨nH, hH⟩, ⟨nT, hTk⟩, _, _⟩ := HW0.out.call hm1 hs1
          have hlook := hH.lookup (P := Tryd.prog) (T := 30) (K := 3) (E := 4) (d := .int .i64) kvJ_key Tryd.underlying30 Tryd.underlying3 (zeroBoolJ w1) (kk : Int) false
          simp only [Bool.false_eq_true, if_false, SF_getD, H3.out, kvJ] at hlook
          obtain ⟨W2, hrun2, hH2, hm2, _⟩ := hH.update (P := Tryd.prog) (T := 30) (K := 3) (E := 4) (d := .int .i64) kvJ_key kvJ_inj Tryd.underlying30 Tryd.underlying3 (kk : Int) (.bool true)
          obtain ⟨W3, hrun3, hT3, hm3, _⟩ := (hTk.keep hm2 (by simpa using HW0.out.hT.symm)).update (P := Tryd.prog) (T := 30) (K := 3) (E := 4) (d := .int .i64) kvJ_key kvJ_inj Tryd.underlying30 Tryd.underlying3 (kk : Int) (.bool true)
          have HW := Lib.hid (HW0.out.take HTt.out hm1 hs1 hm2 hm3 ⟨_, hH2⟩ ⟨_, hT3⟩)
          simp only [kvJ] at hrun2 hrun3
          clear hm1 hs1 hH hTk hH2 hm2 hT3 hm3 HTK
          go_wp2_with fail
          obtain ⟨nX, hnX⟩ := HW.out.had
          have hcn := HW.out.cnt hnX
          have hfr := spFree_any HW.out.sp
          obtain ⟨c, hc⟩ : ∃ c, (S.takeS).used.count false = c := ⟨_, rfl⟩
          rw [hc] at hfr hcn
          have HFR := Lib.hid hfr
          have hlen := fun (q : Nat) (ty : TypeId) => (hnX.drewN q).len (P := Tryd.prog) (T := 30) (K := 3) (E := 4) Tryd.underlying30 ty
          have e8 : IntKind.i64.wrap (8 - (nX : Int)) = (c : Int) := by rw [IntWalk.i64_in _ (by omega)]; omega
          clear hnX hcn hfr hc
          go_wp2_with fail
          refine HFR.out.mono ?_
          rintro e w' ⟨rfl, q, rfl⟩
          go_wp2_with fail
          go_roundw
          case rel => exact ⟨i + 1, bT, bG, by omega, rfl, rfl, by go_num, _, _, HW.out.drewN q⟩
          case measure => simp [intOf]; omega
        | none =>
          obtain ⟨t1, t2⟩ := once_full HOK.out ht
          have htk := spTake_no HSP.out HT0.out _ ht t2
          have HTK := Lib.hid htk
          have H1 := Lib.hid t1
          clear htk ht t1 t2
          go_wp2_with fail
          refine HTK.out.mono ?_
          rintro e w1 ⟨rfl, hm1, hs1⟩
          have HW := Lib.hid (HW0.out.sameS hm1 hs1)
          obtain ⟨nH, hH⟩ := HW.out.had
          have hc8 := HW.out.cnt hH
          rw [H1.out] at hc8
          obtain rfl : nH = 8 := by omega
          have hlen0 := fun (ty : TypeId) => hH.len (P := Tryd.prog) (T := 30) (K := 3) (E := 4) Tryd.underlying30 ty
          clear hm1 hs1 HTK H1 hH hc8
          go_wp2_with fail
          obtain ⟨nX, hnX⟩ := HW.out.had
          have hcn := HW.out.cnt hnX
          have hfr := spFree_any HW.out.sp
          obtain ⟨c, hc⟩ : ∃ c, (S).used.count false = c := ⟨_, rfl⟩
          rw [hc] at hfr hcn
          have HFR := Lib.hid hfr
          have hlen := fun (q : Nat) (ty : TypeId) => (hnX.drewN q).len (P := Tryd.prog) (T := 30) (K := 3) (E := 4) Tryd.underlying30 ty
          have e8 : IntKind.i64.wrap (8 - (nX : Int)) = (c : Int) := by rw [IntWalk.i64_in _ (by omega)]; omega
          clear hnX hcn hfr hc
          go_wp2_with fail
          refine HFR.out.mono ?_
          rintro e w' ⟨rfl, q, rfl⟩
          go_wp2_with fail
          go_roundw
          case rel => exact ⟨i + 1, bT, bG, by omega, rfl, rfl, by go_num, _, _, HW.out.drewN q⟩
          case measure => simp [intOf]; omega
      · cases ht : S.tk with
        | some kk =>
          obtain ⟨t1, t2, t3, _⟩ := once_take HOK.out ht
          have htk := spTake_yes HSP.out HT0.out kk _ ht rfl
          have HTK := Lib.hid htk
          have HTt := Lib.hid ht
          have H3 := Lib.hid t3
          have hk0 : ((kk : Int) == 0) = false := by simp; omega
          have hk1 : decide ((kk : Int) = 0) = false := by simp; omega
          clear htk ht t3
          go_wp2_with fail
          refine HTK.out.mono ?_
          rintro e w1 ⟨rfl, hm1, hs1⟩
          obtain ⟨_, ⟨nH, hH⟩, ⟨nT, hTk⟩, _, _⟩ := HW0.out.call hm1 hs1
          have hlook := hH.lookup (P := Tryd.prog) (T := 30) (K := 3) (E := 4) (d := .int .i64) kvJ_key Tryd.underlying30 Tryd.underlying3 (zeroBoolJ w1) (kk : Int) false
          simp only [Bool.false_eq_true, if_false, SF_getD, H3.out, kvJ] at hlook
          obtain ⟨W2, hrun2, hH2, hm2, _⟩ := hH.update (P := Tryd.prog) (T := 30) (K := 3) (E := 4) (d := .int .i64) kvJ_key kvJ_inj Tryd.underlying30 Tryd.underlying3 (kk : Int) (.bool true)
          obtain ⟨W3, hrun3, hT3, hm3, _⟩ := (hTk.keep hm2 (by simpa using HW0.out.hT.symm)).update (P := Tryd.prog) (T := 30) (K := 3) (E := 4) (d := .int .i64) kvJ_key kvJ_inj Tryd.underlying30 Tryd.underlying3 (kk : Int) (.bool true)
          have HW := Lib.hid (HW0.out.take HTt.out hm1 hs1 hm2 hm3 ⟨_, hH2⟩ ⟨_, hT3⟩)
          simp only [kvJ] at hrun2 hrun3
          clear hm1 hs1 hH hTk hH2 hm2 hT3 hm3 HTK
          go_wp2_with fail
          obtain ⟨nX, hnX⟩ := HW.out.had
          have hcn := HW.out.cnt hnX
          have hfr := spFree_any HW.out.sp
          obtain ⟨c, hc⟩ : ∃ c, (S.takeS).used.count false = c := ⟨_, rfl⟩
          rw [hc] at hfr hcn
          have HFR := Lib.hid hfr
          have hlen := fun (q : Nat) (ty : TypeId) => (hnX.drewN q).len (P := Tryd.prog) (T := 30) (K := 3) (E := 4) Tryd.underlying30 ty
          have e8 : IntKind.i64.wrap (8 - (nX : Int)) = (c : Int) := by rw [IntWalk.i64_in _ (by omega)]; omega
          clear hnX hcn hfr hc
          go_wp2_with fail
          refine HFR.out.mono ?_
          rintro e w' ⟨rfl, q, rfl⟩
          go_wp2_with fail
          go_roundw
          case rel => exact ⟨i + 1, bT, bG, by omega, rfl, rfl, by go_num, _, _, HW.out.drewN q⟩
          case measure => simp [intOf]; omega
        | none =>
          obtain ⟨t1, t2⟩ := once_full HOK.out ht
          have htk := spTake_no HSP.out HT0.out _ ht t2
          have HTK := Lib.hid htk
          have H1 := Lib.hid t1
          clear htk ht t1 t2
          go_wp2_with fail
          refine HTK.out.mono ?_
          rintro e w1 ⟨rfl, hm1, hs1⟩
          have HW := Lib.hid (HW0.out.sameS hm1 hs1)
          obtain ⟨nH, hH⟩ := HW.out.had
          have hc8 := HW.out.cnt hH
          rw [H1.out] at hc8
          obtain rfl : nH = 8 := by omega
          have hlen0 := fun (ty : TypeId) => hH.len (P := Tryd.prog) (T := 30) (K := 3) (E := 4) Tryd.underlying30 ty
          clear hm1 hs1 HTK H1 hH hc8
          go_wp2_with fail
          obtain ⟨nX, hnX⟩ := HW.out.had
          have hcn := HW.out.cnt hnX
          have hfr := spFree_any HW.out.sp
          obtain ⟨c, hc⟩ : ∃ c, (S).used.count false = c := ⟨_, rfl⟩
          rw [hc] at hfr hcn
          have HFR := Lib.hid hfr
          have hlen := fun (q : Nat) (ty : TypeId) => (hnX.drewN q).len (P := Tryd.prog) (T := 30) (K := 3) (E := 4) Tryd.underlying30 ty
          have e8 : IntKind.i64.wrap (8 - (nX : Int)) = (c : Int) := by rw [IntWalk.i64_in _ (by omega)]; omega
          clear hnX hcn hfr hc
          go_wp2_with fail
          refine HFR.out.mono ?_
          rintro e w' ⟨rfl, q, rfl⟩
          go_wp2_with fail
          go_roundw
          case rel => exact ⟨i + 1, bT, bG, by omega, rfl, rfl, by go_num, _, _, HW.out.drewN q⟩
          case measure => simp [intOf]; omega
      · obtain ⟨g1, g2, g3⟩ := once_give HOK.out hk9
        obtain ⟨c0, hc0⟩ : ∃ c0, S.giveE k = c0 := ⟨_, rfl⟩
        have hgv := spGive_to HSP.out k c0 _ hc0 rfl
        rw [hc0] at g1
        have HGV := Lib.hid hgv
        have G2 := Lib.hid g2
        have G3 := Lib.hid g3
        obtain ⟨x, hx⟩ : ∃ x, hadG S k = x := ⟨_, rfl⟩
        obtain ⟨y, hy⟩ : ∃ y, mem S.given k = y := ⟨_, rfl⟩
        rw [hx, hy] at g1
        have HX := Lib.hid hx
        have HY := Lib.hid hy
        clear hgv g2 g3 hc0 hx hy
        go_wp2_with fail
        refine HGV.out.mono ?_
        rintro e w1 ⟨rfl, hm1, hs1⟩
        obtain ⟨_, ⟨nH, hH⟩, _, ⟨nG, hG⟩, _⟩ := HW0.out.call hm1 hs1
        have hlook := hH.lookup (P := Tryd.prog) (T := 30) (K := 3) (E := 4) (d := .int .i64) kvJ_key Tryd.underlying30 Tryd.underlying3 (zeroBoolJ w1) (k : Int) false
        have hlook2 := hG.lookup (P := Tryd.prog) (T := 30) (K := 3) (E := 4) (d := .int .i64) kvJ_key Tryd.underlying30 Tryd.underlying3 (zeroBoolJ w1) (k : Int) false
        simp only [Bool.false_eq_true, if_false, SF_getD, HX.out, HY.out, kvJ] at hlook hlook2
        obtain ⟨W2, hrun2, hG2, hm2, _⟩ := hG.update (P := Tryd.prog) (T := 30) (K := 3) (E := 4) (d := .int .i64) kvJ_key kvJ_inj Tryd.underlying30 Tryd.underlying3 (k : Int) (.bool true)
        simp only [kvJ] at hrun2
        cases x with
        | true =>
          have HW := Lib.hid (HW0.out.give hk9 HX.out hm1 hs1 hm2 ⟨_, hG2⟩)
          clear hm1 hs1 hH hG hG2 hm2 HGV
          cases y <;> simp only [Bool.not_true, Bool.not_false, Bool.and_true, Bool.and_false, beq_iff_eq, beq_eq_false_iff_ne] at g1
          · subst g1
            go_wp2_with fail
            obtain ⟨nX, hnX⟩ := HW.out.had
            have hcn := HW.out.cnt hnX
            have hfr := spFree_any HW.out.sp
            obtain ⟨c, hc⟩ : ∃ c, (S.giveS k).used.count false = c := ⟨_, rfl⟩
            rw [hc] at hfr hcn
            have HFR := Lib.hid hfr
            have hlen := fun (q : Nat) (ty : TypeId) => (hnX.drewN q).len (P := Tryd.prog) (T := 30) (K := 3) (E := 4) Tryd.underlying30 ty
            have e8 : IntKind.i64.wrap (8 - (nX : Int)) = (c : Int) := by rw [IntWalk.i64_in _ (by omega)]; omega
            clear hnX hcn hfr hc
            go_wp2_with fail
            refine HFR.out.mono ?_
            rintro e w' ⟨rfl, q, rfl⟩
            go_wp2_with fail
            go_roundw
            case rel => exact ⟨i + 1, bT, bG, by omega, rfl, rfl, by go_num, _, _, HW.out.drewN q⟩
            case measure => simp [intOf]; omega
          · have g4 : decide (c0 = 0) = false := by simpa using g1
            go_wp2_with fail
            obtain ⟨nX, hnX⟩ := HW.out.had
            have hcn := HW.out.cnt hnX
            have hfr := spFree_any HW.out.sp
            obtain ⟨c, hc⟩ : ∃ c, (S.giveS k).used.count false = c := ⟨_, rfl⟩
            rw [hc] at hfr hcn
            have HFR := Lib.hid hfr
            have hlen := fun (q : Nat) (ty : TypeId) => (hnX.drewN q).len (P := Tryd.prog) (T := 30) (K := 3) (E := 4) Tryd.underlying30 ty
            have e8 : IntKind.i64.wrap (8 - (nX : Int)) = (c : Int) := by rw [IntWalk.i64_in _ (by omega)]; omega
            clear hnX hcn hfr hc
            go_wp2_with fail
            refine HFR.out.mono ?_
            rintro e w' ⟨rfl, q, rfl⟩
            go_wp2_with fail
            go_roundw
            case rel => exact ⟨i + 1, bT, bG, by omega, rfl, rfl, by go_num, _, _, HW.out.drewN q⟩
            case measure => simp [intOf]; omega
        | false =>
          have e2 := G2.out HX.out
          rw [e2] at hs1
          have HW := Lib.hid (HW0.out.sameS hm1 hs1)
          simp only [Bool.false_and, beq_eq_false_iff_ne] at g1
          have g4 : decide (c0 = 0) = false := by simpa using g1
          clear hm1 hs1 hH hG hG2 hm2 HGV e2
          go_wp2_with fail
          obtain ⟨nX, hnX⟩ := HW.out.had
          have hcn := HW.out.cnt hnX
          have hfr := spFree_any HW.out.sp
          obtain ⟨c, hc⟩ : ∃ c, (S).used.count false = c := ⟨_, rfl⟩
          rw [hc] at hfr hcn
          have HFR := Lib.hid hfr
          have hlen := fun (q : Nat) (ty : TypeId) => (hnX.drewN q).len (P := Tryd.prog) (T := 30) (K := 3) (E := 4) Tryd.underlying30 ty
          have e8 : IntKind.i64.wrap (8 - (nX : Int)) = (c : Int) := by rw [IntWalk.i64_in _ (by omega)]; omega
          clear hnX hcn hfr hc
          go_wp2_with fail
          refine HFR.out.mono ?_
          rintro e w' ⟨rfl, q, rfl⟩
          go_wp2_with fail
          go_roundw
          case rel => exact ⟨i + 1, bT, bG, by omega, rfl, rfl, by go_num, _, _, HW.out.drewN q⟩
          case measure => simp [intOf]; omega
      · obtain ⟨g1, g2, g3⟩ := once_give HOK.out hk9
        obtain ⟨c0, hc0⟩ : ∃ c0, S.giveE k = c0 := ⟨_, rfl⟩
        have hgv := spGive_to HSP.out k c0 _ hc0 rfl
        rw [hc0] at g1
        have HGV := Lib.hid hgv
        have G2 := Lib.hid g2
        have G3 := Lib.hid g3
        obtain ⟨x, hx⟩ : ∃ x, hadG S k = x := ⟨_, rfl⟩
        obtain ⟨y, hy⟩ : ∃ y, mem S.given k = y := ⟨_, rfl⟩
        rw [hx, hy] at g1
        have HX := Lib.hid hx
        have HY := Lib.hid hy
        clear hgv g2 g3 hc0 hx hy
        go_wp2_with fail
        refine HGV.out.mono ?_
        rintro e w1 ⟨rfl, hm1, hs1⟩
        obtain ⟨_, ⟨nH, hH⟩, _, ⟨nG, hG⟩, _⟩ := HW0.out.call hm1 hs1
        have hlook := hH.lookup (P := Tryd.prog) (T := 30) (K := 3) (E := 4) (d := .int .i64) kvJ_key Tryd.underlying30 Tryd.underlying3 (zeroBoolJ w1) (k : Int) false
        have hlook2 := hG.lookup (P := Tryd.prog) (T := 30) (K := 3) (E := 4) (d := .int .i64) kvJ_key Tryd.underlying30 Tryd.underlying3 (zeroBoolJ w1) (k : Int) false
        simp only [Bool.false_eq_true, if_false, SF_getD, HX.out, HY.out, kvJ] at hlook hlook2
        obtain ⟨W2, hrun2, hG2, hm2, _⟩ := hG.update (P := Tryd.prog) (T := 30) (K := 3) (E := 4) (d := .int .i64) kvJ_key kvJ_inj Tryd.underlying30 Tryd.underlying3 (k : Int) (.bool true)
        simp only [kvJ] at hrun2
        cases x with
        | true =>
          have HW := Lib.hid (HW0.out.give hk9 HX.out hm1 hs1 hm2 ⟨_, hG2⟩)
          clear hm1 hs1 hH hG hG2 hm2 HGV
          cases y <;> simp only [Bool.not_true, Bool.not_false, Bool.and_true, Bool.and_false, beq_iff_eq, beq_eq_false_iff_ne] at g1
          · subst g1
            go_wp2_with fail
            obtain ⟨nX, hnX⟩ := HW.out.had
            have hcn := HW.out.cnt hnX
            have hfr := spFree_any HW.out.sp
            obtain ⟨c, hc⟩ : ∃ c, (S.giveS k).used.count false = c := ⟨_, rfl⟩
            rw [hc] at hfr hcn
            have HFR := Lib.hid hfr
            have hlen := fun (q : Nat) (ty : TypeId) => (hnX.drewN q).len (P := Tryd.prog) (T := 30) (K := 3) (E := 4) Tryd.underlying30 ty
            have e8 : IntKind.i64.wrap (8 - (nX : Int)) = (c : Int) := by rw [IntWalk.i64_in _ (by omega)]; omega
            clear hnX hcn hfr hc
            go_wp2_with fail
            refine HFR.out.mono ?_
            rintro e w' ⟨rfl, q, rfl⟩
            go_wp2_with fail
            go_roundw
            case rel => exact ⟨i + 1, bT, bG, by omega, rfl, rfl, by go_num, _, _, HW.out.drewN q⟩
            case measure => simp [intOf]; omega
          · have g4 : decide (c0 = 0) = false := by simpa using g1
            go_wp2_with fail
            obtain ⟨nX, hnX⟩ := HW.out.had
            have hcn := HW.out.cnt hnX
            have hfr := spFree_any HW.out.sp
            obtain ⟨c, hc⟩ : ∃ c, (S.giveS k).used.count false = c := ⟨_, rfl⟩
            rw [hc] at hfr hcn
            have HFR := Lib.hid hfr
            have hlen := fun (q : Nat) (ty : TypeId) => (hnX.drewN q).len (P := Tryd.prog) (T := 30) (K := 3) (E := 4) Tryd.underlying30 ty
            have e8 : IntKind.i64.wrap (8 - (nX : Int)) = (c : Int) := by rw [IntWalk.i64_in _ (by omega)]; omega
            clear hnX hcn hfr hc
            go_wp2_with fail
            refine HFR.out.mono ?_
            rintro e w' ⟨rfl, q, rfl⟩
            go_wp2_with fail
            go_roundw
            case rel => exact ⟨i + 1, bT, bG, by omega, rfl, rfl, by go_num, _, _, HW.out.drewN q⟩
            case measure => simp [intOf]; omega
        | false =>
          have e2 := G2.out HX.out
          rw [e2] at hs1
          have HW := Lib.hid (HW0.out.sameS hm1 hs1)
          simp only [Bool.false_and, beq_eq_false_iff_ne] at g1
          have g4 : decide (c0 = 0) = false := by simpa using g1
          clear hm1 hs1 hH hG hG2 hm2 HGV e2
          go_wp2_with fail
          obtain ⟨nX, hnX⟩ := HW.out.had
          have hcn := HW.out.cnt hnX
          have hfr := spFree_any HW.out.sp
          obtain ⟨c, hc⟩ : ∃ c, (S).used.count false = c := ⟨_, rfl⟩
          rw [hc] at hfr hcn
          have HFR := Lib.hid hfr
          have hlen := fun (q : Nat) (ty : TypeId) => (hnX.drewN q).len (P := Tryd.prog) (T := 30) (K := 3) (E := 4) Tryd.underlying30 ty
          have e8 : IntKind.i64.wrap (8 - (nX : Int)) = (c : Int) := by rw [IntWalk.i64_in _ (by omega)]; omega
          clear hnX hcn hfr hc
          go_wp2_with fail
          refine HFR.out.mono ?_
          rintro e w' ⟨rfl, q, rfl⟩
          go_wp2_with fail
          go_roundw
          case rel => exact ⟨i + 1, bT, bG, by omega, rfl, rfl, by go_num, _, _, HW.out.drewN q⟩
          case measure => simp [intOf]; omega
      · obtain ⟨g1, g2, g3⟩ := once_give HOK.out hk9
        obtain ⟨c0, hc0⟩ : ∃ c0, S.giveE k = c0 := ⟨_, rfl⟩
        have hgv := spGive_to HSP.out k c0 _ hc0 rfl
        rw [hc0] at g1
        have HGV := Lib.hid hgv
        have G2 := Lib.hid g2
        have G3 := Lib.hid g3
        obtain ⟨x, hx⟩ : ∃ x, hadG S k = x := ⟨_, rfl⟩
        obtain ⟨y, hy⟩ : ∃ y, mem S.given k = y := ⟨_, rfl⟩
        rw [hx, hy] at g1
        have HX := Lib.hid hx
        have HY := Lib.hid hy
        clear hgv g2 g3 hc0 hx hy
        go_wp2_with fail
        refine HGV.out.mono ?_
        rintro e w1 ⟨rfl, hm1, hs1⟩
        obtain ⟨_, ⟨nH, hH⟩, _, ⟨nG, hG⟩, _⟩ := HW0.out.call hm1 hs1
        have hlook := hH.lookup (P := Tryd.prog) (T := 30) (K := 3) (E := 4) (d := .int .i64) kvJ_key Tryd.underlying30 Tryd.underlying3 (zeroBoolJ w1) (k : Int) false
        have hlook2 := hG.lookup (P := Tryd.prog) (T := 30) (K := 3) (E := 4) (d := .int .i64) kvJ_key Tryd.underlying30 Tryd.underlying3 (zeroBoolJ w1) (k : Int) false
        simp only [Bool.false_eq_true, if_false, SF_getD, HX.out, HY.out, kvJ] at hlook hlook2
        obtain ⟨W2, hrun2, hG2, hm2, _⟩ := hG.update (P := Tryd.prog) (T := 30) (K := 3) (E := 4) (d := .int .i64) kvJ_key kvJ_inj Tryd.underlying30 Tryd.underlying3 (k : Int) (.bool true)
        simp only [kvJ] at hrun2
        cases x with
        | true =>
          have HW := Lib.hid (HW0.out.give hk9 HX.out hm1 hs1 hm2 ⟨_, hG2⟩)
          clear hm1 hs1 hH hG hG2 hm2 HGV
          cases y <;> simp only [Bool.not_true, Bool.not_false, Bool.and_true, Bool.and_false, beq_iff_eq, beq_eq_false_iff_ne] at g1
          · subst g1
            go_wp2_with fail
            obtain ⟨nX, hnX⟩ := HW.out.had
            have hcn := HW.out.cnt hnX
            have hfr := spFree_any HW.out.sp
            obtain ⟨c, hc⟩ : ∃ c, (S.giveS k).used.count false = c := ⟨_, rfl⟩
            rw [hc] at hfr hcn
            have HFR := Lib.hid hfr
            have hlen := fun (q : Nat) (ty : TypeId) => (hnX.drewN q).len (P := Tryd.prog) (T := 30) (K := 3) (E := 4) Tryd.underlying30 ty
            have e8 : IntKind.i64.wrap (8 - (nX : Int)) = (c : Int) := by rw [IntWalk.i64_in _ (by omega)]; omega
            clear hnX hcn hfr hc
            go_wp2_with fail
            refine HFR.out.mono ?_
            rintro e w' ⟨rfl, q, rfl⟩
            go_wp2_with fail
            go_roundw
            case rel => exact ⟨i + 1, bT, bG, by omega, rfl, rfl, by go_num, _, _, HW.out.drewN q⟩
            case measure => simp [intOf]; omega
          · have g4 : decide (c0 = 0) = false := by simpa using g1
            go_wp2_with fail
            obtain ⟨nX, hnX⟩ := HW.out.had
            have hcn := HW.out.cnt hnX
            have hfr := spFree_any HW.out.sp
            obtain ⟨c, hc⟩ : ∃ c, (S.giveS k).used.count false = c := ⟨_, rfl⟩
            rw [hc] at hfr hcn
            have HFR := Lib.hid hfr
            have hlen := fun (q : Nat) (ty : TypeId) => (hnX.drewN q).len (P := Tryd.prog) (T := 30) (K := 3) (E := 4) Tryd.underlying30 ty
            have e8 : IntKind.i64.wrap (8 - (nX : Int)) = (c : Int) := by rw [IntWalk.i64_in _ (by omega)]; omega
            clear hnX hcn hfr hc
            go_wp2_with fail
            refine HFR.out.mono ?_
            rintro e w' ⟨rfl, q, rfl⟩
            go_wp2_with fail
            go_roundw
            case rel => exact ⟨i + 1, bT, bG, by omega, rfl, rfl, by go_num, _, _, HW.out.drewN q⟩
            case measure => simp [intOf]; omega
        | false =>
          have e2 := G2.out HX.out
          rw [e2] at hs1
          have HW := Lib.hid (HW0.out.sameS hm1 hs1)
          simp only [Bool.false_and, beq_eq_false_iff_ne] at g1
          have g4 : decide (c0 = 0) = false := by simpa using g1
          clear hm1 hs1 hH hG hG2 hm2 HGV e2
          go_wp2_with fail
          obtain ⟨nX, hnX⟩ := HW.out.had
          have hcn := HW.out.cnt hnX
          have hfr := spFree_any HW.out.sp
          obtain ⟨c, hc⟩ : ∃ c, (S).used.count false = c := ⟨_, rfl⟩
          rw [hc] at hfr hcn
          have HFR := Lib.hid hfr
          have hlen := fun (q : Nat) (ty : TypeId) => (hnX.drewN q).len (P := Tryd.prog) (T := 30) (K := 3) (E := 4) Tryd.underlying30 ty
          have e8 : IntKind.i64.wrap (8 - (nX : Int)) = (c : Int) := by rw [IntWalk.i64_in _ (by omega)]; omega
          clear hnX hcn hfr hc
          go_wp2_with fail
          refine HFR.out.mono ?_
          rintro e w' ⟨rfl, q, rfl⟩
          go_wp2_with fail
          go_roundw
          case rel => exact ⟨i + 1, bT, bG, by omega, rfl, rfl, by go_num, _, _, HW.out.drewN q⟩
          case measure => simp [intOf]; omega
      · have hst := spSettle_any HSP.out HT0.out
        have HST := Lib.hid hst
        clear hst
        go_wp2_with fail
        refine HST.out.mono ?_
        rintro e w1 ⟨rfl, hm1, fp1, hs1, hf1⟩
        obtain ⟨nH, hH⟩ := HW0.out.had
        obtain ⟨nG, hG⟩ := HW0.out.given
        have hH1 := hH.keep hm1 HW0.out.offH
        have hG1 := hG.keep hm1 HW0.out.offG
        obtain ⟨w2, hrg, hR, hm2, hz2⟩ := hG1.range (P := Tryd.prog) (T := 30) (K := 3) (E := 4) Tryd.underlying30
        obtain ⟨r, hrr⟩ : ∃ r, w1.heap.size = r := ⟨_, rfl⟩
        have hH2 := hH1.keep hm2 (by simp)
        have hHl := hH1.lt
        have hGl := hG1.lt
        have hsl := hs1.lt
        rw [hrr] at hR hrg hHl hGl hsl hz2
        have hrf : r ∉ fp1 := fun e => by have := hsl _ e; omega
        have hs2 := hs1.keep hm2 (by simp)
        have hoff : bH ∉ fp1 := fun e => by
          rcases hf1 _ e with h | h
          · exact HW0.out.offH h
          · have := hH.lt; omega
        have hM2 := (HW0.out.mods.trans hm1 (fun k hk => .inr (HW0.out.new k hk))).trans hm2 (by simp)
        have hnew1 : ∀ k ∈ fp1, w.heap.size ≤ k := fun k hk => by
          rcases hf1 k hk with h | h
          · exact HW0.out.new k h
          · have := HW0.out.mods.size; omega
        have hrn : w.heap.size ≤ r := by have := HW0.out.mods.size; have := hm1.size; omega
        have hO := OutW.start hR hH2
        have HO := Lib.hid hO
        have HS2 := Lib.hid hs2
        have HM2 := Lib.hid hM2
        have HF1 := Lib.hid hnew1
        have HRf := Lib.hid hrf
        have HOff := Lib.hid hoff
        have hrH : r ≠ bH := by omega
        have hrG : r ≠ bG := by omega
        have HNe := Lib.hid (And.intro hrH (And.intro hrG HW0.out.hG.symm))
        clear hm1 hs1 hf1 hH hG hH1 hG1 hR hm2 hH2 hHl hGl hsl hrf hs2 hoff hM2 hnew1 hO hrH hrG HST hz2
        go_wp2_with fail
        clear hrg
        go_loopw [] (fun wr => ∃ left, OutW wr r bG bH (mem S.given) (hadG S) left ∧ Mods [r, bH] w2 wr) (fun wr => leftW wr r bG)
        case atStart => exact ⟨_, HO.out, Mods.refl _ _⟩
        case round =>
          obtain ⟨left, hO, hm⟩ := hrel
          have hl : leftW wr r bG = left := by obtain ⟨D, n, F, h1, _⟩ := hO; exact h1.leftW
          have hstep := hO.step (P := Tryd.prog) (T := 30) (K := 3) (E := 4) HNe.out.2.1 HNe.out.1 HNe.out.2.2 Tryd.underlying30 Tryd.underlying3
          rcases hstep with ⟨hnx, n5, hH5⟩ | ⟨a, v, w5, w6, left1, hnx, hen, hdl, hO6, hl6, hm6, hz6⟩
          · have hW := OnceW.free HOK.out HOK.out.given (HS2.out.keep hm (fun k hk => by
              simp only [List.mem_cons, List.not_mem_nil, or_false]
              rintro (rfl | rfl)
              · exact HRf.out hk
              · exact HOff.out hk)) ⟨n5, hH5⟩ (HM2.out.trans hm (fun k hk => by
              simp only [List.mem_cons, List.not_mem_nil, or_false] at hk
              rcases hk with rfl | rfl
              · exact .inr hrn
              · exact .inr HW0.out.newH)) HF1.out HW0.out.newH HOff.out
            have HW := Lib.hid hW
            clear hO hm hl hH5 hW HO HS2 HM2 HF1
            go_wp2_with fail
            obtain ⟨wX, hwX⟩ : ∃ wX : World, (wr.alloc (.map #[] 0)).alloc (.map #[] 0) = wX := ⟨_, rfl⟩
            rw [hwX]
            rw [hwX] at HW
            clear hwX
            obtain ⟨nX, hnX⟩ := HW.out.had
            have hcn := HW.out.cnt hnX
            have hfr := spFree_any HW.out.sp
            obtain ⟨c, hc⟩ : ∃ c, ((S.freeS (onL S.given))).used.count false = c := ⟨_, rfl⟩
            rw [hc] at hfr hcn
            have HFR := Lib.hid hfr
            have hlen := fun (q : Nat) (ty : TypeId) => (hnX.drewN q).len (P := Tryd.prog) (T := 30) (K := 3) (E := 4) Tryd.underlying30 ty
            have e8 : IntKind.i64.wrap (8 - (nX : Int)) = (c : Int) := by rw [IntWalk.i64_in _ (by omega)]; omega
            clear hnX hcn hfr hc
            go_wp2_with fail
            refine HFR.out.mono ?_
            rintro e w' ⟨rfl, q, rfl⟩
            go_wp2_with fail
            go_roundw
            case rel => exact ⟨i + 1, _, _, by omega, rfl, rfl, by go_num, _, _, HW.out.drewN q⟩
            case measure => simp [intOf]; omega
          · have HO6 := Lib.hid hO6
            have HM6 := Lib.hid (hm.trans hm6 (fun k hk => .inl hk))
            have hl7 : leftW w6 r bG = left1 := by obtain ⟨D, n, F, h1, _⟩ := hO6; exact h1.leftW
            have HL7 := Lib.hid hl7
            have HL := Lib.hid hl
            clear hO6 hm6 hz6 hl hl7 hO hm HO HS2 HM2 HF1
            go_wp2_with fail
            go_roundw
            case rel => exact ⟨_, HO6.out, HM6.out⟩
            case measure => rw [HL7.out, HL.out]; exact hl6
      · have hst := spUndo_any HSP.out HT0.out
        have HST := Lib.hid hst
        clear hst
        go_wp2_with fail
        refine HST.out.mono ?_
        rintro e w1 ⟨rfl, hm1, fp1, hs1, hf1⟩
        obtain ⟨nH, hH⟩ := HW0.out.had
        obtain ⟨nG, hG⟩ := HW0.out.taken
        have hH1 := hH.keep hm1 HW0.out.offH
        have hG1 := hG.keep hm1 HW0.out.offT
        obtain ⟨w2, hrg, hR, hm2, hz2⟩ := hG1.range (P := Tryd.prog) (T := 30) (K := 3) (E := 4) Tryd.underlying30
        obtain ⟨r, hrr⟩ : ∃ r, w1.heap.size = r := ⟨_, rfl⟩
        have hH2 := hH1.keep hm2 (by simp)
        have hHl := hH1.lt
        have hGl := hG1.lt
        have hsl := hs1.lt
        rw [hrr] at hR hrg hHl hGl hsl hz2
        have hrf : r ∉ fp1 := fun e => by have := hsl _ e; omega
        have hs2 := hs1.keep hm2 (by simp)
        have hoff : bH ∉ fp1 := fun e => by
          rcases hf1 _ e with h | h
          · exact HW0.out.offH h
          · have := hH.lt; omega
        have hM2 := (HW0.out.mods.trans hm1 (fun k hk => .inr (HW0.out.new k hk))).trans hm2 (by simp)
        have hnew1 : ∀ k ∈ fp1, w.heap.size ≤ k := fun k hk => by
          rcases hf1 k hk with h | h
          · exact HW0.out.new k h
          · have := HW0.out.mods.size; omega
        have hrn : w.heap.size ≤ r := by have := HW0.out.mods.size; have := hm1.size; omega
        have hO := OutW.start hR hH2
        have HO := Lib.hid hO
        have HS2 := Lib.hid hs2
        have HM2 := Lib.hid hM2
        have HF1 := Lib.hid hnew1
        have HRf := Lib.hid hrf
        have HOff := Lib.hid hoff
        have hrH : r ≠ bH := by omega
        have hrG : r ≠ bT := by omega
        have HNe := Lib.hid (And.intro hrH (And.intro hrG HW0.out.hT.symm))
        clear hm1 hs1 hf1 hH hG hH1 hG1 hR hm2 hH2 hHl hGl hsl hrf hs2 hoff hM2 hnew1 hO hrH hrG HST hz2
        go_wp2_with fail
        clear hrg
        go_loopw [] (fun wr => ∃ left, OutW wr r bT bH (mem S.taken) (hadG S) left ∧ Mods [r, bH] w2 wr) (fun wr => leftW wr r bT)
        case atStart => exact ⟨_, HO.out, Mods.refl _ _⟩
        case round =>
          obtain ⟨left, hO, hm⟩ := hrel
          have hl : leftW wr r bT = left := by obtain ⟨D, n, F, h1, _⟩ := hO; exact h1.leftW
          have hstep := hO.step (P := Tryd.prog) (T := 30) (K := 3) (E := 4) HNe.out.2.1 HNe.out.1 HNe.out.2.2 Tryd.underlying30 Tryd.underlying3
          rcases hstep with ⟨hnx, n5, hH5⟩ | ⟨a, v, w5, w6, left1, hnx, hen, hdl, hO6, hl6, hm6, hz6⟩
          · have hW := OnceW.free HOK.out HOK.out.taken (HS2.out.keep hm (fun k hk => by
              simp only [List.mem_cons, List.not_mem_nil, or_false]
              rintro (rfl | rfl)
              · exact HRf.out hk
              · exact HOff.out hk)) ⟨n5, hH5⟩ (HM2.out.trans hm (fun k hk => by
              simp only [List.mem_cons, List.not_mem_nil, or_false] at hk
              rcases hk with rfl | rfl
              · exact .inr hrn
              · exact .inr HW0.out.newH)) HF1.out HW0.out.newH HOff.out
            have HW := Lib.hid hW
            clear hO hm hl hH5 hW HO HS2 HM2 HF1
            go_wp2_with fail
            obtain ⟨wX, hwX⟩ : ∃ wX : World, (wr.alloc (.map #[] 0)).alloc (.map #[] 0) = wX := ⟨_, rfl⟩
            rw [hwX]
            rw [hwX] at HW
            clear hwX
            obtain ⟨nX, hnX⟩ := HW.out.had
            have hcn := HW.out.cnt hnX
            have hfr := spFree_any HW.out.sp
            obtain ⟨c, hc⟩ : ∃ c, ((S.freeS (onL S.taken))).used.count false = c := ⟨_, rfl⟩
            rw [hc] at hfr hcn
            have HFR := Lib.hid hfr
            have hlen := fun (q : Nat) (ty : TypeId) => (hnX.drewN q).len (P := Tryd.prog) (T := 30) (K := 3) (E := 4) Tryd.underlying30 ty
            have e8 : IntKind.i64.wrap (8 - (nX : Int)) = (c : Int) := by rw [IntWalk.i64_in _ (by omega)]; omega
            clear hnX hcn hfr hc
            go_wp2_with fail
            refine HFR.out.mono ?_
            rintro e w' ⟨rfl, q, rfl⟩
            go_wp2_with fail
            go_roundw
            case rel => exact ⟨i + 1, _, _, by omega, rfl, rfl, by go_num, _, _, HW.out.drewN q⟩
            case measure => simp [intOf]; omega
          · have HO6 := Lib.hid hO6
            have HM6 := Lib.hid (hm.trans hm6 (fun k hk => .inl hk))
            have hl7 : leftW w6 r bT = left1 := by obtain ⟨D, n, F, h1, _⟩ := hO6; exact h1.leftW
            have HL7 := Lib.hid hl7
            have HL := Lib.hid hl
            clear hO6 hm6 hz6 hl hl7 hO hm HO HS2 HM2 HF1
            go_wp2_with fail
            go_roundw
            case rel => exact ⟨_, HO6.out, HM6.out⟩
            case measure => rw [HL7.out, HL.out]; exact hl6
    · obtain rfl : i = p := by omega
      have HM := Lib.hid hW.mods
      clear hW
      go_wp2_with fail
      go_ret
      exact ⟨rfl, HM.out⟩
theorem readables_spaceOnce : ∀ t ∈ (#[22] : Array TypeId).toList, Tryd.prog.readableRec t = true ∧ t < Tryd.prog.types.size := by
  intro t ht
  simp only [List.mem_cons, List.not_mem_nil, or_false] at ht
  rcases ht with rfl
  all_goals exact ⟨by kernel_rfl, of_decide_eq_true (by kernel_rfl)⟩
theorem standIns_spaceOnce (j : Nat) (t : TypeId) (ht : (#[22] : Array TypeId)[j]? = some t) : Tryd.pinned.checked.prog.wantsStandIn t = false := by
  have hm := Array.mem_of_getElem? ht
  simp only [List.mem_toArray, List.mem_cons, List.not_mem_nil, or_false] at hm
  rcases hm with rfl
  · exact (show Tryd.prog.wantsStandIn 22 = false by kernel_rfl)

theorem spaceOnce_contract (H : Type) (enc : TypeId × Value → H) (W : World) (base : Nat) (args : Array Value) (ds gs : List (DataW H)) (before : List MemPlace)
    (hval : ∀ (j : Nat) t v, Tryd.f8.params[j]? = some t → args[j]? = some v → Value.okWide Tryd.prog W .any base t v)
    (hW : DataW.Whole enc Tryd.prog Tryd.f8.params.toList Rows.spaceOnceSpec.vars false W args.toList ds gs before) (hL : laidMetH Tryd.prog laidVars W) :
    Calls Tryd.prog 8 args W fun e W' => ∃ v, e = .returned v ∧ Rows.spaceOnceSpec.post enc Tryd.prog Tryd.f8 false true false false W args v W' := by
  have hW' := hW
  obtain ⟨p, q, hA0, hV, he, hfz, hnd⟩ := hW
  have hA : DataW.TrodAll enc Tryd.prog W 0 (fun _ => true) true Tryd.f8.params.toList args.toList ds p := hA0
  rw [Tryd.params8] at hA hval
  obtain ⟨v0, vs0, d0, ds0, p0, q0, hargs, rfl, rfl, h0, r0⟩ := trodAll_cons hA
  obtain ⟨rfl, rfl, rfl⟩ := trodAll_nil r0
  obtain rfl : args = #[v0] := by cases args; simp_all
  obtain ⟨lA, lLen, lCap, l, rfl, lRow, lL, lC, lM, lB⟩ := u8s_open Tryd.underlying22 Tryd.underlying5 cellsU8 (hval 0 22 v0 rfl rfl) h0
  refine (spaceOnce_walk lA lLen lCap l W (tab_of_laid hL) lRow lL lC lB).mono fun e W' ⟨he', hm⟩ => ?_
  subst he'
  exact ⟨_, rfl, post_law laidOut (by rw [Tryd.params8]; exact readables_spaceOnce) (by rfl) Tryd.underlying4 rfl rfl hW' hm.below⟩

theorem spaceOnce_reads (os : Os) {H : Type} (enc : TypeId × Value → H) : ∃ places, DataW.whole enc Tryd.prog ((laidWorld os).forCall (fun _ _ => 0) ⟨#[], #[.slice none 0 0], []⟩).memory Tryd.f8.params.toList Rows.spaceOnceSpec.vars false (#[.slice none 0 0] : Array Value).toList 8 = some ([.nil], [], places) :=
  ⟨[], by kernel_rfl⟩

set_option maxRecDepth 100000 in
theorem spaceOnce_lifted (os : Os) (started : os.Started) (H : Type) (enc : TypeId × Value → H) (F : Stop.Interp) :
    ReturnsInHanded {} Tryd.checked os 8 .any ((OpenSpec.ofChange Rows.spaceOnceSpec).preRow enc Tryd.prog Tryd.f8 Rows.spaceOnceRow.domain false Rows.spaceOnceRow.laid) (((OpenSpec.ofChange Rows.spaceOnceSpec).at F).post enc Tryd.prog Tryd.f8 false true false false) := by
  obtain ⟨places, hx⟩ := spaceOnce_reads os enc
  refine returnsInHanded_of_row (C := Tryd.checked) (s := OpenSpec.ofChange Rows.spaceOnceSpec) own started (by kernel_rfl) Tryd.func8
    (witness_row_at (enc := enc) (C := Tryd.checked) false (laidWorld os) #[.slice none 0 0] rfl (by kernel_rfl) (by kernel_rfl) (by kernel_rfl)
      (OpenSpec.preRow_of_cond 8 hx (by kernel_rfl) (fun k hk => by cases hk) (by kernel_rfl) (laid_met os _))) ?_
  intro W base args ds gs before hval hW _ _ _ hL _ _
  exact spaceOnce_contract H enc W base args ds gs before hval hW hL

theorem spaceOnce_said : Rows.SpaceOnceSaid :=
  OpenClaim.holds_of_cond 8 Tryd.f8 rfl rfl rfl rfl rfl rfl rfl ⟨rfl, rfl, rfl, rfl, rfl⟩ rfl rfl rfl rfl rfl (by kernel_rfl) Tryd.func8 (by kernel_rfl)
    (of_decide_eq_true (by kernel_rfl)) (by unfold Func.isWrapper; first | (rw [if_pos (by decide +kernel)]; kernel_rfl) | (rw [if_neg (by decide +kernel)]; exact ⟨rfl, rfl⟩))
    (fun os started H enc _ F => by rw [OpenClaim.pre_eq_preRow]; exact spaceOnce_lifted os started H enc F)

theorem spaceOnce_plain (f : FuncId) (fn : Func) (hf : Tryd.pinned.checked.prog.funcNamed "treenail/treenaillaw10.SpaceOnce" = some f) (hfn : Tryd.pinned.checked.prog.funcs[f]? = some fn) :
    false = Tryd.pinned.checked.prog.looks [] ∧ ∀ (j : Nat) t, fn.params[j]? = some t → Tryd.pinned.checked.prog.wantsStandIn t = false := by
  obtain rfl : f = 8 := Option.some.inj ((show Tryd.prog.funcNamed "treenail/treenaillaw10.SpaceOnce" = some 8 by kernel_rfl).symm.trans hf) |>.symm
  obtain rfl : fn = Tryd.f8 := (Option.some.inj (Tryd.func8.symm.trans hfn)).symm
  refine ⟨by kernel_rfl, fun j t ht => ?_⟩
  rw [Tryd.params8] at ht
  exact standIns_spaceOnce j t ht

/-- The card. -/
theorem spaceOnce_card : Rows.SpaceOnceCardSaid :=
  Claim7.holds_tied_plain_at .later [] _ _ _ _ spaceOnce_said (fun _ h => by cases h) (by kernel_rfl) (fun _ h => by cases h) spaceOnce_row_tie rfl ⟨rfl, rfl⟩ (by kernel_rfl) rfl spaceOnce_plain (by kernel_rfl)
end Go.Proofs.YtahaecieklfhkaaDoor
