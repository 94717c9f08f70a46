/- The order's slots, sorted: package cache's comparison; slices.SortFunc, slices.SortedFunc there. -/
import Derived.Test.YtahaecieklfhkaaSeq2
import Derived.Test.YtahaecieklfhkaaLayS
namespace Go.Proofs.Ytahaecieklfhkaa
open Go.RowKit Go.Shelf

theorem nanU64_any (x : Int) (w : World) : Calls Try.prog 63 #[.int .u64 x] w fun e w' => e = .returned (.bool false) ∧ w = w' := by
  go_enter Try.func63, Try.ntmps63
  go_wp2
  go_ret
  exact ⟨by simp, rfl⟩
/-- What cmp.Compare answers. -/
def cmpN (x y : Nat) : Int := if x < y then -1 else if y < x then 1 else 0
set_option maxHeartbeats 400000 in
theorem cmpU64_any (x y : Nat) (w : World) : Calls Try.prog 49 #[.int .u64 x, .int .u64 y] w fun e w' => e = .returned (.int .i64 (cmpN x y)) ∧ w = w' := by
  have c := fun x => Lib.hid (nanU64_any x w)
  by_cases h1 : x < y
  · have hd : decide ((x : Int) < (y : Int)) = true := by simpa using h1
    go_enter Try.func49, Try.ntmps49
    go_wp2_with (go_at_call 63; refine (c _).out.mono ?_; rintro e w' ⟨rfl, rfl⟩)
    go_ret
    exact ⟨by rw [cmpN, if_pos h1]; rfl, rfl⟩
  · by_cases h2 : y < x
    · go_enter Try.func49, Try.ntmps49
      go_wp2_with (go_at_call 63; refine (c _).out.mono ?_; rintro e w' ⟨rfl, rfl⟩)
      go_ret
      exact ⟨by rw [cmpN, if_neg h1, if_pos h2]; rfl, rfl⟩
    · go_enter Try.func49, Try.ntmps49
      go_wp2_with (go_at_call 63; refine (c _).out.mono ?_; rintro e w' ⟨rfl, rfl⟩)
      go_ret
      exact ⟨by rw [cmpN, if_neg h1, if_neg h2]; rfl, rfl⟩
set_option maxHeartbeats 400000 in
theorem cCmp_any {w : World} {e f : Ent} (he : w.cell? ⟨e.blk, 5, none⟩ = some (.int .u64 e.used)) (hf : w.cell? ⟨f.blk, 5, none⟩ = some (.int .u64 f.used)) :
    Calls Try.prog 48 #[.pointer (some ⟨e.blk, 0, none⟩), .pointer (some ⟨f.blk, 0, none⟩)] w fun x w' => x = .returned (.int .i64 (cmpN f.used e.used)) ∧ ∃ q, w' = w.drewN q := by
  have c := fun q => cmpU64_any f.used e.used (w.drewN q)
  have C := Lib.hid c
  clear c
  go_enter Try.func48, Try.ntmps48
  go_wp2
  go_quiet ((go_at_call 49; exact Calls.quiet_of_same ((C.out _).mono fun e w' ⟨he, hw⟩ => ⟨he, hw.symm⟩)))
  go_wp2
  go_ret
  exact ⟨rfl, nq, rfl⟩

theorem perm_sorted_eq {α : Type} {R : α → α → Prop} : ∀ {l1 l2 : List α}, l1.Perm l2 → l1.Pairwise R → l2.Pairwise (fun a b => ¬ R b a) → l1 = l2
  | [], l2, hp, _, _ => (List.nil_perm.1 hp).symm
  | x :: t1, [], hp, _, _ => absurd (List.perm_nil.1 hp) (by simp)
  | x :: t1, y :: t2, hp, h1, h2 => by
    have hxy : x = y ∨ x ≠ y := Classical.em _
    rcases hxy with rfl | hxy
    · have := perm_sorted_eq ((List.perm_cons x).1 hp) (List.pairwise_cons.1 h1).2 (List.pairwise_cons.1 h2).2
      rw [this]
    · exfalso
      have hy : y ∈ t1 := by
        have := hp.mem_iff.2 (List.mem_cons_self (a := y) (l := t2))
        rcases List.mem_cons.1 this with e | e
        · exact absurd e.symm hxy
        · exact e
      have hx : x ∈ t2 := by
        have := hp.mem_iff.1 (List.mem_cons_self (a := x) (l := t1))
        rcases List.mem_cons.1 this with e | e
        · exact absurd e hxy
        · exact e
      exact (List.pairwise_cons.1 h2).1 x hx ((List.pairwise_cons.1 h1).1 y hy)

theorem sortWorld_mods {α : Type} [Inhabited α] (enc : α → Value) (w : World) (g n : Nat) (d : Array α) (os : Array Obj) : Mods [g] w (sortWorld enc w g 0 n d os) := by
  refine ⟨rfl, rfl, rfl, by simp [sortWorld, Sort.grow, Sort.putRow, Sort.mapBlock, Sort.ahead], fun k hk hn => ?_⟩
  have hne : g ≠ k := fun e => hn (by simp [e])
  unfold sortWorld
  rw [Sort.heap_grow_old _ _ (by simpa [Sort.putRow, Sort.mapBlock, Sort.ahead] using hk)]
  simp [Sort.putRow, Sort.mapBlock, Sort.ahead, Array.getElem?_modify, hne]
theorem grow_drewN (w : World) (q : Nat) : Sort.grow (w.drewN q) #[] = w.drewN q := Sort.grow_empty _

/-- slices.SortFunc by the cache's comparison: the slots, the one that was used last first. -/
theorem sortF_any {w : World} {g cap : Nat} {E D : List Ent} (hE : E ≠ []) (hsm : E.length < 1000000) (hrow : w.ownsRow 0 112 1 (.slice (some ⟨g, 0, none⟩) E.length cap) E.length (E.map Ent.ptr))
    (hu : ∀ e ∈ E, w.cell? ⟨e.blk, 5, none⟩ = some (.int .u64 e.used)) (hg : ∀ e ∈ E, e.blk ≠ g) (hD : D.Perm E) (hs : D.Pairwise (fun x y => y.used < x.used)) :
    Calls Try.prog 61 #[.slice (some ⟨g, 0, none⟩) E.length cap, .func (.func 48) #[] #[]] w fun x w' => x = .returned (.tuple #[]) ∧ Mods [g] w w' ∧ ∀ (j : Nat) e, D[j]? = some e → w'.cell? ⟨g, j, none⟩ = some e.ptr := by
  obtain ⟨r, hB, _, _⟩ := owns_blk hrow
  obtain ⟨e0, he0⟩ := List.exists_mem_of_ne_nil E hE
  letI : Inhabited { e // e ∈ E } := ⟨⟨e0, he0⟩⟩
  have hsz : E.attach.toArray.size = E.length := by simp
  have hgl := hB.lt
  have hH : Sort.Holds (fun x : { e // e ∈ E } => x.1.ptr) w g 0 E.attach.toArray := by
    intro j hj
    rw [hsz] at hj
    rw [Nat.zero_add]
    refine ⟨hB.cell ?_, hB.free j⟩
    rw [List.getElem?_append_left (by simpa using hj), List.getElem?_map, List.getElem?_eq_getElem hj, getElem!_pos _ j (by rw [hsz]; exact hj)]
    simp
  have eg : ∀ args w, (callFunc 48 args).run Try.prog w = .ok (.enter 48 args) w := enters_of Try.func48 (by kernel_rfl) rfl
  have hcmp : CmpLays1 Try.prog 48 #[] (fun x : { e // e ∈ E } => x.1.ptr) (fun x y => cmpN y.1.used x.1.used) g 0 E.attach.toArray.size w := by
    intro m os dk hdk x y
    have hm := sortWorld_mods (fun x : { e // e ∈ E } => x.1.ptr) w g m dk os
    have hx := (hm.cell (p := ⟨x.1.blk, 5, none⟩) (World.block_lt_of_cell? w _ (hu x.1 x.2)) (by simp; exact hg x.1 x.2)).trans (hu x.1 x.2)
    have hy := (hm.cell (p := ⟨y.1.blk, 5, none⟩) (World.block_lt_of_cell? w _ (hu y.1 y.2)) (by simp; exact hg y.1 y.2)).trans (hu y.1 y.2)
    refine (cCmp_any hx hy).mono ?_
    rintro e w' ⟨rfl, q, rfl⟩
    exact ⟨rfl, q, #[], (grow_drewN _ _).symm⟩
  have hlt : ∀ x y : { e // e ∈ E }, ltOf (fun x y : { e // e ∈ E } => cmpN y.1.used x.1.used) x y = decide (y.1.used < x.1.used) := by
    intro x y
    unfold ltOf cmpN
    by_cases h1 : y.1.used < x.1.used
    · simp [h1]
    · by_cases h2 : x.1.used < y.1.used <;> simp [h1, h2]
  have hO : Sort.SWO (ltOf (fun x y : { e // e ∈ E } => cmpN y.1.used x.1.used)) := by
    refine ⟨fun x => by rw [hlt]; simp, fun x y z a b => ?_, fun x y z a b => ?_⟩
    · rw [hlt] at *; simp at *; omega
    · rw [hlt] at *; simp at *; omega
  have hcon := Any.slices_SortFunc Try.sortS (fun x : { e // e ∈ E } => x.1.ptr) (fun _ => rfl) (fun x y => cmpN y.1.used x.1.used) hO 48 #[] g 0 cap E.attach.toArray w eg hcmp hH hgl (by rw [hsz]; omega)
  change Calls Try.prog 61 _ _ _ at hcon
  rw [hsz] at hcon
  refine hcon.mono ?_
  rintro x w' ⟨rfl, d', n, os, hp, hsd, rfl⟩
  have hm := sortWorld_mods (fun x : { e // e ∈ E } => x.1.ptr) w g n d' os
  obtain ⟨hpz, _, hpp⟩ := hp
  rw [hsz] at hpz
  have hH2 : Sort.Holds (fun x : { e // e ∈ E } => x.1.ptr) (sortWorld (fun x : { e // e ∈ E } => x.1.ptr) w g 0 n d' os) g 0 d' := holds_sortWorld _ _ _ _ _ _ _ _ hgl hH (by rw [hpz, hsz])
  have hl : D = d'.toList.map (·.1) := by
    refine perm_sorted_eq (R := fun x y => y.used < x.used) ?_ hs ?_
    · have a : (d'.extract 0 E.length).toList = d'.toList := by simp [← hpz]
      have b : (E.attach.toArray.extract 0 E.length).toList = E.attach := by
        simp only [List.extract_toArray, List.extract_eq_take_drop, List.drop_zero, Nat.sub_zero]
        exact List.take_of_length_le (by simp)
      rw [a, b] at hpp
      have c := hpp.map (·.1)
      rw [List.attach_map_subtype_val] at c
      exact hD.trans c.symm
    · rw [List.pairwise_map, List.pairwise_iff_getElem]
      intro i j hi hj hij
      have := hsd i j (by omega) hij (by rw [← hpz]; simpa using hj)
      rw [hlt, getElem!_pos d' i (by simpa using hi), getElem!_pos d' j (by simpa using hj)] at this
      simpa using this
  refine ⟨rfl, hm, fun j e hj => ?_⟩
  rw [hl, List.getElem?_map] at hj
  obtain ⟨x, hx, rfl⟩ := Option.map_eq_some_iff.1 hj
  have hjl := (List.getElem?_eq_some_iff.1 hx).1
  have := (hH2 j (by simpa using hjl)).1
  rw [Nat.zero_add, getElem!_pos d' j (by simpa using hjl)] at this
  rw [this]
  have e1 := List.getElem?_eq_getElem hjl
  rw [hx] at e1
  have e2 := Option.some.inj e1
  rw [e2]
  simp
end Go.Proofs.Ytahaecieklfhkaa
