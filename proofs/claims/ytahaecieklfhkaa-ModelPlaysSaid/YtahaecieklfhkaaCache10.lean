/- What a cache is, and the walks of remove and Drop. -/
import Derived.Test.YtahaecieklfhkaaCache9
namespace Go.Proofs.Ytahaecieklfhkaa
open Go.RowKit

/-! ### Addresses and pointers, as the map has them -/
def kvC (a : Int) : Value := .int .i64 a
theorem kvC_key (a : Int) : MapKept.IsKey (.int .i64) (kvC a) := rfl
theorem kvC_inj (a c : Int) (h : kvC a = kvC c) : a = c := by injection h
def mapF : List (Int × Value) → Int → Option Value
  | [], _ => none
  | p :: l, a => if p.1 = a then some p.2 else mapF l a
theorem mapF_iff {l : List (Int × Value)} (hn : (l.map (·.1)).Nodup) {a : Int} {v : Value} : mapF l a = some v ↔ (a, v) ∈ l := by
  induction l with
  | nil => simp [mapF]
  | cons p l ih =>
    obtain ⟨c, u⟩ := p
    simp only [List.map_cons, List.nodup_cons] at hn
    simp only [mapF, List.mem_cons, Prod.mk.injEq]
    by_cases hc : c = a
    · subst hc
      rw [if_pos rfl]
      constructor
      · intro h; injection h with h; exact .inl ⟨rfl, h.symm⟩
      · rintro (⟨_, h⟩ | h)
        · rw [h]
        · exact absurd (List.mem_map.2 ⟨_, h, rfl⟩) hn.1
    · rw [if_neg hc, ih hn.2]
      constructor
      · exact .inr
      · rintro (⟨h, _⟩ | h)
        · exact absurd h.symm hc
        · exact h
theorem opt_ext {α : Type} {x y : Option α} (h : ∀ v, x = some v ↔ y = some v) : x = y := by
  cases x with
  | none => cases y with
    | none => rfl
    | some v => exact absurd ((h v).2 rfl) (by simp)
  | some v => exact ((h v).1 rfl).symm
theorem mapF_perm {l1 l2 : List (Int × Value)} (hp : l1.Perm l2) (hn : (l2.map (·.1)).Nodup) : mapF l1 = mapF l2 := by
  funext a
  refine opt_ext fun v => ?_
  rw [mapF_iff hn, mapF_iff ((hp.map (·.1)).nodup_iff.2 hn), hp.mem_iff]
theorem mapF_app {l : List (Int × Value)} {a : Int} {v : Value} (hn : ((l ++ [(a, v)]).map (·.1)).Nodup) (c : Int) : mapF (l ++ [(a, v)]) c = if c = a then some v else mapF l c := by
  have hl : (l.map (·.1)).Nodup := by rw [List.map_append] at hn; exact (List.nodup_append.1 hn).1
  refine opt_ext fun u => ?_
  rw [mapF_iff hn, List.mem_append, List.mem_singleton, Prod.mk.injEq]
  by_cases hc : c = a
  · subst hc
    rw [if_pos rfl]
    constructor
    · rintro (h | ⟨_, h⟩)
      · rw [List.map_append] at hn
        exact absurd rfl ((List.nodup_append.1 hn).2.2 c (List.mem_map.2 ⟨_, h, rfl⟩) c (by simp))
      · rw [h]
    · intro h; injection h with h; exact .inr ⟨rfl, h.symm⟩
  · rw [if_neg hc, mapF_iff hl]
    constructor
    · rintro (h | ⟨h, _⟩)
      · exact h
      · exact absurd h hc
    · exact .inl
theorem mapF_none {l : List (Int × Value)} {a : Int} (h : a ∉ l.map (·.1)) : mapF l a = none := by
  cases hc : mapF l a with
  | none => rfl
  | some v =>
    exfalso
    revert h
    induction l with
    | nil => simp [mapF] at hc
    | cons p l ih =>
      simp only [mapF] at hc
      by_cases hp : p.1 = a
      · simp [hp]
      · rw [if_neg hp] at hc
        intro h
        exact ih hc (fun hx => h (by simp [List.mem_map] at hx ⊢; exact .inr hx))

def prs (E : List Ent) : List (Int × Value) := E.map fun e => (e.addr, e.ptr)
theorem prs_fst (E : List Ent) : (prs E).map (·.1) = E.map Ent.addr := by unfold prs; rw [List.map_map]; rfl

/-- A cache as its parts. -/
structure CS where
  slots : Nat
  E : List Ent
  tick : Nat
  f0 : Nat
  f1 : Nat
def CS.head (S : CS) (mb : Nat) (v : Value) : List Value := [.int .i64 S.slots, .map (some mb), v, .int .u64 S.tick, .int .i64 S.f0, .int .i64 S.f1]
structure CS.Ok (S : CS) : Prop where
  adr : (S.E.map Ent.addr).Nodup
  tik : ∀ e ∈ S.E, e.used ≤ S.tick
  hp : Hp (useds S.E) S.E.length
  len : S.E.length ≤ S.slots
  slo : S.slots ≤ 4096
  tk : S.tick < 100000000000
  c0 : S.f0 < 100000000000
  c1 : S.f1 < 100000000000
/-- The cache in block b. -/
def IsCache (w : World) (b : Nat) (fp : List Nat) (S : CS) : Prop :=
  ∃ mb v, fp = b :: mb :: (obk v ++ S.E.map Ent.blk) ∧ fp.Nodup ∧ Blk w b 110 (S.head mb v) ∧ MapK kvC w mb (mapF (prs S.E)) S.E.length ∧ OrdW w v S.E ∧ S.Ok
theorem OrdW.keep {w w1 : World} {v : Value} {E : List Ent} (h : OrdW w v E) {L : List Nat} (hm : Mods L w w1) (hn : ∀ k ∈ obk v ++ E.map Ent.blk, k ∉ L) : OrdW w1 v E := by
  rcases h with h | ⟨g, cap, rfl, h⟩
  · exact .inl h
  · exact .inr ⟨g, cap, rfl, h.keep hm (fun k hk => hn k (by simpa [obk, Value.ownBlock] using hk))⟩
theorem OrdW.lt {w : World} {v : Value} {E : List Ent} (h : OrdW w v E) : ∀ k ∈ obk v ++ E.map Ent.blk, k < w.heap.size := by
  intro k hk
  rcases List.mem_append.1 hk with hk | hk
  · rcases h with ⟨rfl, _⟩ | ⟨g, cap, rfl, ⟨r, h1, _⟩, _⟩
    · simp [obk, Value.ownBlock] at hk
    · simp [obk, Value.ownBlock] at hk; subst hk; exact h1.lt
  · obtain ⟨x, hx, rfl⟩ := List.mem_map.1 hk
    obtain ⟨j, hj⟩ := List.getElem?_of_mem hx
    exact (h.slot j x hj).lt
theorem IsCache.keep {w w1 : World} {b : Nat} {fp : List Nat} {S : CS} (h : IsCache w b fp S) {L : List Nat} (hm : Mods L w w1) (hn : ∀ k ∈ fp, k ∉ L) : IsCache w1 b fp S := by
  obtain ⟨mb, v, rfl, h1, h2, h3, h4, h5⟩ := h
  exact ⟨mb, v, rfl, h1, h2.keep hm (hn b (by simp)), h3.keep hm (hn mb (by simp)), h4.keep hm (fun k hk => hn k (List.mem_cons_of_mem _ (List.mem_cons_of_mem _ hk))), h5⟩
theorem IsCache.lt {w : World} {b : Nat} {fp : List Nat} {S : CS} (h : IsCache w b fp S) : ∀ k ∈ fp, k < w.heap.size := by
  obtain ⟨mb, v, rfl, h1, h2, h3, h4, h5⟩ := h
  intro k hk
  rcases List.mem_cons.1 hk with rfl | hk
  · exact h2.lt
  rcases List.mem_cons.1 hk with rfl | hk
  · exact h3.lt
  · exact h4.lt k hk
theorem IsCache.drewN {w : World} {b : Nat} {fp : List Nat} {S : CS} (h : IsCache w b fp S) (q : Nat) : IsCache (w.drewN q) b fp S := h.keep ((Mods.refl [] w).drewN q) (by simp)

/-- What remove leaves. -/
def DropPost (w w' : World) (b : Nat) (fp : List Nat) (S : CS) (e : Ent) : Prop :=
  ∃ E1 fp1, (E1 ++ [e]).Perm S.E ∧ IsCache w' b fp1 { S with E := E1 } ∧ (∀ k ∈ fp1, k ∈ fp) ∧ Mods fp w w'

theorem ok_less {S : CS} {E1 : List Ent} {e : Ent} (h : S.Ok) (hp : (E1 ++ [e]).Perm S.E) (hh : Hp (useds E1) E1.length) : CS.Ok { S with E := E1 } := by
  have a := (hp.map Ent.addr).nodup_iff.2 h.adr
  rw [List.map_append] at a
  have hl := hp.length_eq
  simp at hl
  exact ⟨(List.nodup_append.1 a).1, fun x hx => h.tik x (hp.mem_iff.1 (List.mem_append_left _ hx)), hh, by have := h.len; show E1.length ≤ S.slots; omega, h.slo, h.tk, h.c0, h.c1⟩

set_option maxRecDepth 100000 in
set_option maxHeartbeats 1600000 in
theorem cRemove_any {w : World} {b i : Nat} {fp : List Nat} {S : CS} {e : Ent} (h : IsCache w b fp S) (he : S.E[i]? = some e) :
    Calls Try.prog 43 #[.pointer (some ⟨b, 0, none⟩), .pointer (some ⟨e.blk, 0, none⟩)] w fun x w' => x = .returned (.tuple #[]) ∧ DropPost w w' b fp S e := by
  obtain ⟨mb, v, rfl, h1, h2, h3, h4, h5⟩ := h
  have hi := (List.getElem?_eq_some_iff.1 he).1
  obtain ⟨m, hm⟩ : ∃ m, S.E.length = m + 1 := ⟨S.E.length - 1, by omega⟩
  obtain ⟨g, cap, rfl, hH⟩ : ∃ g cap, v = .slice (some ⟨g, 0, none⟩) S.E.length cap ∧ HeapW w g cap S.E := by
    rcases h4 with ⟨_, hE⟩ | h4
    · rw [hE] at hi; simp at hi
    · exact h4
  have e1 : obk (.slice (some ⟨g, 0, none⟩) S.E.length cap) = [g] := rfl
  rw [e1] at h1 ⊢
  have hbn : b ∉ g :: S.E.map Ent.blk := fun hx => (List.nodup_cons.1 h1).1 (List.mem_cons_of_mem _ (by simpa using hx))
  have hmn : mb ∉ g :: S.E.map Ent.blk := fun hx => (List.nodup_cons.1 (List.nodup_cons.1 h1).2).1 (by simpa using hx)
  have hbm : b ≠ mb := fun hx => (List.nodup_cons.1 h1).1 (by rw [hx]; simp)
  have hsm : S.E.length < 1000000 := by have := h5.len; have := h5.slo; omega
  have hr := fun q => Lib.hid (hRemove_any (hH.drewN q) (h2.drewN q) rfl hbn he hm hsm h5.hp)
  have c6 := (hH.slot i e he).cell (i := 6) rfl
  have hadr := h5.adr
  have H2 := Lib.hid h2
  have H3 := Lib.hid h3
  have H5 := Lib.hid h5
  have HN := Lib.hid (And.intro h1 (And.intro hbn (And.intro hmn hbm)))
  have hbl := h2.lt
  have HM := Lib.hid hm
  clear h1 h2 h3 h4 h5 hH e1 he hbn hmn hbm hm hadr
  go_enter Try.func43, Try.ntmps43
  go_wp2_with fail
  go_region_with ((go_at_call 57; refine (hr _).out.mono ?_; rintro x w3 ⟨⟨vv, rfl⟩, hp⟩))
  all_goals
    obtain ⟨E1, hH1, hp1, hh1, hB1, hm1, p, hs1⟩ := hp
    have hl1 : E1.length + 1 = S.E.length := by have := hp1.length_eq; simpa using this
    have hmb : mb ∉ b :: g :: S.E.map Ent.blk := by
      intro hx
      rcases List.mem_cons.1 hx with hx | hx
      · exact HN.out.2.2.2 hx.symm
      · exact HN.out.2.2.1 hx
    have hM1 : MapK kvC (w3.drewN 1) mb (mapF (prs S.E)) S.E.length := ((H3.out.drewN 1).keep hm1 hmb).drewN 1
    obtain ⟨w4, hdel, hM4, hm4, _⟩ := hM1.delete (P := Try.prog) (T := 105) (K := 3) (E := 112) (ty := 0) (d := .int .i64) kvC_key kvC_inj Try.underlying105 Try.underlying3 e.addr
    have hdel2 : ∀ ty, Sem.run Try.prog (Builtin.delete_ #[105, 3] ty #[.map (some mb), .int .i64 e.addr]) w3.drew = .ok (.tuple #[]) w4 := fun _ => hdel
    have cm := hB1.cell (i := 1) (v := .map (some mb)) rfl
    have ca := hs1.cell (i := 0) rfl
    have hbE : ∀ k ∈ g :: E1.map Ent.blk, k ∈ g :: S.E.map Ent.blk := by
      intro k hk
      rcases List.mem_cons.1 hk with hk | hk
      · exact List.mem_cons.2 (.inl hk)
      · exact List.mem_cons_of_mem _ ((hp1.map Ent.blk).mem_iff.1 (by rw [List.map_append]; exact List.mem_append_left _ hk))
    have HF : Hid (DropPost w w4 b (b :: mb :: g :: S.E.map Ent.blk) S e) := by
      refine ⟨E1, b :: mb :: g :: E1.map Ent.blk, hp1, ⟨mb, .slice (some ⟨g, 0, none⟩) E1.length cap, rfl, ?_, ?_, ?_, ?_, ok_less H5.out hp1 hh1⟩, ?_, ?_⟩
      · refine List.nodup_cons.2 ⟨?_, List.nodup_cons.2 ⟨fun hx => HN.out.2.2.1 (hbE _ hx), hH1.nodup⟩⟩
        intro hx
        rcases List.mem_cons.1 hx with hx | hx
        · exact HN.out.2.2.2 hx
        · exact HN.out.2.1 (hbE _ hx)
      · exact (hB1.drewN 1).keep hm4 (by simp; exact HN.out.2.2.2)
      · have hn := H5.out.adr
        have hpp : (prs E1 ++ [(e.addr, e.ptr)]).Perm (prs S.E) := by
          have := hp1.map (fun e => (e.addr, e.ptr))
          simpa [prs] using this
        have hn2 : ((prs E1 ++ [(e.addr, e.ptr)]).map (·.1)).Nodup := (hpp.map (·.1)).nodup_iff.2 (by rw [prs_fst]; exact hn)
        have e2 : mapF (prs S.E) = mapF (prs E1 ++ [(e.addr, e.ptr)]) := (mapF_perm hpp (by rw [prs_fst]; exact hn)).symm
        have e3 : delF (mapF (prs S.E)) e.addr = mapF (prs E1) := by
          funext c
          rw [e2]
          unfold delF
          by_cases hc : c = e.addr
          · rw [if_pos hc, hc]
            refine (mapF_none ?_).symm
            rw [List.map_append] at hn2
            intro hx
            exact absurd rfl ((List.nodup_append.1 hn2).2.2 _ hx e.addr (by simp))
          · rw [if_neg hc, mapF_app hn2, if_neg hc]
        have e4 : (mapF (prs S.E) e.addr).isSome = true := by rw [e2, mapF_app hn2, if_pos rfl]; rfl
        rw [e3, if_pos e4, show S.E.length - 1 = E1.length by omega] at hM4
        exact hM4
      · exact .inr ⟨g, cap, rfl, (hH1.drewN 1).keep hm4 (fun k hk hx => HN.out.2.2.1 (by rw [List.mem_singleton.1 hx] at hk; exact hbE _ hk))⟩
      · intro k hk
        rcases List.mem_cons.1 hk with hk | hk
        · exact List.mem_cons.2 (.inl hk)
        rcases List.mem_cons.1 hk with hk | hk
        · exact List.mem_cons_of_mem _ (List.mem_cons.2 (.inl hk))
        · exact List.mem_cons_of_mem _ (List.mem_cons_of_mem _ (hbE _ hk))
      · have a1 : Mods (b :: mb :: g :: S.E.map Ent.blk) w w3 := ⟨hm1.os, hm1.tape, hm1.output, hm1.size, fun k hk hn => hm1.block k hk (fun hx => hn (by
          rcases List.mem_cons.1 hx with hx | hx
          · exact List.mem_cons.2 (.inl hx)
          · exact List.mem_cons_of_mem _ (List.mem_cons_of_mem _ hx)))⟩
        exact (a1.drewN 1).trans hm4 (fun k hk => .inl (by rw [List.mem_singleton.1 hk]; simp))
    clear hdel hM4 hm4 hM1 hmb hl1 hH1 hp1 hh1 hB1 hm1 hs1 hbE
    go_wp2_with fail
    go_region
    all_goals (try go_wp2_with fail)
    all_goals go_end0
    all_goals exact ⟨rfl, HF.out⟩
end Go.Proofs.Ytahaecieklfhkaa
