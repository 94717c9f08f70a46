/- slices.Sorted(maps.Keys(m)) and maps.Clone at this dump, by the kit's contracts; in my own words on maps. -/
import Derived.Test.YtahaecieklfhkaaLayM
import Derived.Test.YtahaecieklfhkaaPModel
namespace Go.Proofs.Ytahaecieklfhkaa
open Go.RowKit Go.Maps Go.Sort Go.Shelf Go.ChangeMaps Go.MapKept
open Go.WideElems (Fit)

/-- How a map's keys are kept: strings. -/
def kvS (a : ByteArray) : Value := .string a
theorem kvS_key (a : ByteArray) : IsKey .string (kvS a) := trivial
theorem kvS_inj (a c : ByteArray) (h : kvS a = kvS c) : a = c := by injection h

theorem sortsM (m : Nat) : AnyZ.SortsIn Try.prog Try.sorted40_ren Fence.wide m :=
  ⟨fun blk off cap ss W hH hblk hsz => callsIn_wide.2 (AnyM.slices_Sort_string Try.sort55 blk off cap ss W hH hblk hsz),
   fun p cap W => callsIn_wide.2 (AnyM.slices_Sort_string_none Try.sort55 p cap W)⟩
theorem keys_call (mb : Option Nat) (W : World) : CallsIn Fence.wide 5 Try.prog 41 #[.map mb] W fun e w' => e = .returned (.func (.func 56) #[] #[.pointer (some ⟨W.heap.size, 0, none⟩)]) ∧ w' = W.alloc (.cells #[.map mb] 92) :=
  AnyZ.keys_in Try.keys41 Fence.wide 5 trivial rfl mb W
set_option maxHeartbeats 1000000 in
theorem sorted_call {H : Type} (b nn : Nat) (D0 : DataW H) (R : Value → Option (DataW H × List MemPlace)) (w : World) (hown : w.ownsMap Try.prog 9 R b nn D0) (hmax : Maps.size D0 ≤ maxLen) (hbytes : Maps.size D0 * 16 ≤ 140737488355328) :
    CallsIn Fence.wide 5 Try.prog 40 #[.func (.func 56) #[] #[.pointer (some ⟨w.heap.size, 0, none⟩)]] (w.alloc (.cells #[.map (some b)] 92)) fun e w' => ∃ (v : Value) (ss : List (List UInt8)), e = .returned v ∧ ss.Perm (strKeys D0) ∧
      w'.ownsRow (w.alloc (.cells #[.map (some b)] 92)).heap.size 9 1 v ss.length ((ss.mergeSort (fun x y => decide (x ≤ y))).map encStr) ∧ (v = .slice none 0 0 ↔ ss = []) ∧ Below (w.alloc (.cells #[.map (some b)] 92)).heap.size (w.alloc (.cells #[.map (some b)] 92)) w' := by
  have hbl := hown.lt
  have hseq : SeqGives Fence.wide 2 Try.prog 56 #[.pointer (some ⟨w.heap.size, 0, none⟩)] encStr (fun ss => ss.Perm (strKeys D0)) (Maps.size D0) (w.alloc (.cells #[.map (some b)] 92)) :=
    AnyZ.keys_gives (ρ := Try.keys41_ren) { Try.keys41 with } Fence.wide _ trivial rfl (by omega) w.heap.size b nn D0 _ (by simp) (by simp) (by
      obtain ⟨es, clock, hb, Ft, hs, hD⟩ := hown
      exact ⟨es, clock, (Below.heap_alloc _ _ b hbl).trans hb, Ft, hs, hD⟩)
  exact AnyZ.sorted_in Try.sorted40 Fence.wide 5 trivial trivial trivial trivial rfl (by omega) (sortsM _) (enters_of Try.func55 (by kernel_rfl) rfl) 56 #[.pointer (some ⟨w.heap.size, 0, none⟩)] trivial (enters_of Try.func56 (by kernel_rfl) rfl) _ _ hmax hbytes _ hseq
/-- A map told by rising entries, as the kit tells a map. -/
theorem owns_of_mapK {w : World} {b : Nat} {E : Ents} (h : MapK kvS w b (entF E) E.length) (hE : Rising E) (hk : ∀ e ∈ E, e.1.size ≤ maxLen) (hl : E.length ≤ maxLen) :
    ∃ D : DataW Unit, w.ownsMap Try.prog 9 (fun _ => some (.nil, [])) b E.length D ∧ (strKeys D).Perm (E.map fun e => e.1.data.toList) ∧ Maps.size D = E.length := by
  obtain ⟨es, clock, h1, h2, h3, h4, h5⟩ := h
  have hmem : ∀ k v, (∃ x ∈ es.toList, x.key = kvS k ∧ x.val = v) ↔ ∃ u, (k, u) ∈ E ∧ v = .string u := by
    intro k v
    rw [← h4 k v]
    unfold entF
    rw [Option.map_eq_some_iff]
    constructor
    · rintro ⟨u, hu, rfl⟩; exact ⟨u, (getE_iff hE).1 hu, rfl⟩
    · rintro ⟨u, hu, rfl⟩; exact ⟨u, (getE_iff hE).2 hu, rfl⟩
  have hkey : ∀ x ∈ es.toList, ∃ k : ByteArray, x.key = kvS k ∧ k.size ≤ maxLen ∧ WideElems.rd (H := Unit) Try.prog 9 (fun _ => some (.nil, [])) x = some (.string k.data.toList, .nil) := by
    intro x hx
    obtain ⟨k, hxk⟩ := h3 x hx
    obtain ⟨u, hu, _⟩ := (hmem k x.val).1 ⟨x, hx, hxk, rfl⟩
    have hs := hk _ hu
    refine ⟨k, hxk, hs, ?_⟩
    unfold WideElems.rd
    rw [hxk]
    have hs2 : k.size ≤ maxLen := hs
    simp [kvS, keyOf, Try.underlying9, mapKey, hs2]
  refine ⟨_, ⟨es, clock, h1, ⟨by omega, h2, fun x hx => by obtain ⟨k, _, _, hr⟩ := hkey x hx; exact ⟨_, hr⟩⟩, by omega, rfl⟩, ?_, ?_⟩
  · have hp := (WideShapes.sorted_perm (H := Unit) (es.toList.map (WideElems.rg Try.prog 9 (fun _ => some (.nil, []))))).map (fun p => strOf p.1)
    refine hp.trans ?_
    rw [List.map_map]
    have e1 : es.toList.map ((fun p => strOf p.1) ∘ WideElems.rg (H := Unit) Try.prog 9 (fun _ => some (.nil, []))) = (es.toList.map (·.key)).map (fun v => match v with | .string k => k.data.toList | _ => []) := by
      rw [List.map_map]
      apply List.map_congr_left
      intro x hx
      obtain ⟨k, hxk, _, hr⟩ := hkey x hx
      simp only [Function.comp, hxk, kvS]
      unfold WideElems.rg
      rw [hr]; rfl
    rw [e1]
    have hn1 : ((es.toList.map (·.key)).map (fun v => match v with | .string k => k.data.toList | _ => ([] : List UInt8))).Nodup := by
      have hnd := h2.2.2
      unfold List.Nodup at hnd ⊢
      rw [List.pairwise_map]
      refine hnd.imp_of_mem fun {a c} ha hc hac e => hac ?_
      obtain ⟨x, hx, rfl⟩ := List.mem_map.1 ha
      obtain ⟨y, hy, rfl⟩ := List.mem_map.1 hc
      obtain ⟨k, hxk, _⟩ := hkey x hx
      obtain ⟨k2, hyk, _⟩ := hkey y hy
      rw [hxk, hyk] at e ⊢
      have e2 : k.data.toList = k2.data.toList := e
      rw [toList_inj (a := k) (b := k2) (by rw [Lib.toList_data, Lib.toList_data]; exact e2)]
    have hn2 : (E.map fun e => e.1.data.toList).Nodup := by
      have := hE.nodup
      unfold List.Nodup at this ⊢
      rw [List.pairwise_map] at this ⊢
      refine this.imp fun {a c} hac e => hac (toList_inj (by rw [Lib.toList_data, Lib.toList_data]; exact e))
    refine (List.perm_ext_iff_of_nodup hn1 hn2).2 fun l => ?_
    constructor
    · intro hl
      obtain ⟨v, hv, rfl⟩ := List.mem_map.1 hl
      obtain ⟨x, hx, rfl⟩ := List.mem_map.1 hv
      obtain ⟨k, hxk, _⟩ := hkey x hx
      obtain ⟨u, hu, _⟩ := (hmem k x.val).1 ⟨x, hx, hxk, rfl⟩
      rw [hxk]
      exact List.mem_map.2 ⟨_, hu, rfl⟩
    · intro hl
      obtain ⟨e, he, rfl⟩ := List.mem_map.1 hl
      obtain ⟨x, hx, hxk, _⟩ := (hmem e.1 (.string e.2)).2 ⟨e.2, he, rfl⟩
      exact List.mem_map.2 ⟨x.key, List.mem_map.2 ⟨x, hx, rfl⟩, by rw [hxk]; rfl⟩
  · have := (WideShapes.sorted_perm (H := Unit) (es.toList.map (WideElems.rg Try.prog 9 (fun _ => some (.nil, []))))).length_eq
    rw [Maps.size_eq, this]
    simp only [List.length_map, Array.length_toList]
    exact h5
/-- Sorted, they are the entries' keys. -/
theorem sorted_keys {E : Ents} (hE : Rising E) {ss : List (List UInt8)} (h : ss.Perm (E.map fun e => e.1.data.toList)) : ss.mergeSort (fun x y => decide (x ≤ y)) = E.map fun e => e.1.data.toList := by
  have h1 : ss.mergeSort leB = (E.map fun e => e.1.data.toList).mergeSort leB := mergeSort_of_perm h
  refine h1.trans (List.mergeSort_of_pairwise ?_)
  rw [List.pairwise_map]
  refine List.Pairwise.imp ?_ hE
  intro a c hac
  have := blt_iff.1 hac
  rw [Lib.toList_data, Lib.toList_data] at this
  simp only [leB, decide_eq_true_eq]
  exact List.le_of_lt this
end Go.Proofs.Ytahaecieklfhkaa
