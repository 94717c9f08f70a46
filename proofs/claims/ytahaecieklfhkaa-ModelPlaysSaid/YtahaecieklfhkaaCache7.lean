/- The walks of container/heap over package cache's order: Push. -/
import Derived.Test.YtahaecieklfhkaaCache6
namespace Go.Proofs.Ytahaecieklfhkaa
open Go.RowKit

theorem owns_blk {w : World} {g n cap : Nat} {e : TypeId} {xs : List Value} (h : w.ownsRow 0 e 1 (.slice (some ⟨g, 0, none⟩) n cap) n xs) : ∃ r, Blk w g e (xs ++ r) ∧ n + r.length = cap ∧ cap ≤ maxLen := by
  obtain ⟨h1, h2⟩ := h
  rcases h2 with ⟨h2, _⟩ | ⟨g2, cap2, cur, hv, _, hh, hn, hc, hs, hx⟩
  · cases h2
  · injection hv with e1 e2 e3
    injection e1 with e1
    injection e1 with e1
    subst e1 e3
    refine ⟨cur.toList.drop (n * 1), ?_, ?_, hc⟩
    · rw [← hx, List.take_append_drop]
      exact hh
    · simp [hs]; omega
theorem blk_owns {w : World} {g n cap : Nat} {e : TypeId} {xs r : List Value} (hx : xs.length = n) (h : Blk w g e (xs ++ r)) (hl : n + r.length = cap) (hc : cap ≤ maxLen) : w.ownsRow 0 e 1 (.slice (some ⟨g, 0, none⟩) n cap) n xs := by
  refine ⟨by simp [hx], .inr ⟨g, cap, (xs ++ r).toArray, rfl, Nat.zero_le _, h, by omega, hc, by simp; omega, by simp [hx]⟩⟩

/-- An append of one cell to a row of one's own: where the new row lies. -/
theorem append_sharp {P : Program} (w : World) (t ty e : TypeId) (i : TypeInfo) (z : Value) (bytes : Nat) (ht : P.underlying t = some (.slice e)) (hi : P.info? e = some i) (hz : i.zero = some z) (hsize : i.size = 1) (hby : i.bytes = bytes) (hbb : bytes ≤ 64) (hzs : z.cells.size = 1)
    (v : Value) (n : Nat) (xs : List Value) (hown : w.ownsRow 0 e 1 v n xs) (a : Addr) (c : Nat) (x : Value) (hx : w.cell? (a.add 0) = some x) (h1 : x.oneCell' = true) (hn : n < 1000000) :
    ∃ g cap w', (Builtin.append_ #[t, t] ty #[v, .slice (some a) 1 c]).run P w = .ok (.slice (some ⟨g, 0, none⟩) (n + 1) cap) w' ∧ w'.ownsRow 0 e 1 (.slice (some ⟨g, 0, none⟩) (n + 1) cap) (n + 1) (xs ++ [x]) ∧ w.grownBy w' v.ownBlock ∧ (v.ownBlock = some g ∨ w.heap.size ≤ g) := by
  have hnews : ∀ (j : Nat) u, [x][j]? = some u → w.cell? (a.add j) = some u := by
    intro j u hj
    have : j = 0 := by have := (List.getElem?_eq_some_iff.1 hj).1; simpa using this
    subst this
    simp at hj; subst hj; exact hx
  have h63 : n + 1 ≤ maxLen := by unfold maxLen; omega
  have hbytes : (n + 1) * bytes ≤ 140737488355328 := Nat.le_trans (Nat.mul_le_mul (show n + 1 ≤ 1000000 by omega) hbb) (by decide)
  have hnew : ∀ v' (w' : World), w'.ownsRow w.heap.size e 1 v' (n + 1) (xs ++ [x]) → w.grownBy w' none → ∃ g cap, v' = .slice (some ⟨g, 0, none⟩) (n + 1) cap ∧ w'.ownsRow 0 e 1 v' (n + 1) (xs ++ [x]) ∧ w.grownBy w' v.ownBlock ∧ (v.ownBlock = some g ∨ w.heap.size ≤ g) := by
    intro v' w' h2 h3
    obtain ⟨k1, k2⟩ := h2
    rcases k2 with ⟨_, k2⟩ | ⟨g, cap, cur, rfl, hg, r⟩
    · omega
    · exact ⟨g, cap, rfl, ⟨k1, .inr ⟨g, cap, cur, rfl, Nat.zero_le _, r⟩⟩, ⟨h3.os, h3.tape, h3.output, h3.size, fun k hk _ => h3.block k hk (by simp)⟩, .inr hg⟩
  have hown2 := hown
  rcases hown.2 with ⟨rfl, rfl⟩ | ⟨g, cap, cur, rfl, _, hg, hnc, hcm, hcs, htake⟩
  · have hx0 : xs = [] := List.eq_nil_of_length_eq_zero (by simpa using hown.1)
    subst hx0
    obtain ⟨v', w', hr, h2, h3, _⟩ := run_append_own (P := P) w w.heap.size t ty e i z 1 bytes ht hi hz hsize hby hzs (by omega) (.slice none 0 0) 0 [] (World.ownsRow_nil _ _ _ _) a 1 c [x] rfl hnews (by simpa using h1) h63 hbytes (Nat.le_refl _)
    obtain ⟨g, cap, rfl, r⟩ := hnew v' w' h2 h3
    exact ⟨g, cap, w', hr, r⟩
  · by_cases hroom : n + 1 ≤ cap
    · have hr := run_append_room (P := P) w t ty e i ht hi g n cap cur hg a 1 c [x] (by simp [hsize]) hnews (by simpa using h1) hroom (by rw [hsize, hcs]; simp; omega)
      refine ⟨g, cap, _, hr, ⟨by simp; have := hown.1; omega, .inr ⟨g, cap, _, rfl, Nat.zero_le _, setRow_heap w g cur _ e _ hg, hroom, hcm, ?_, ?_⟩⟩, ⟨rfl, rfl, rfl, by simp, fun k _ hk => setRow_other w g k _ (fun e => hk (by simp [Value.ownBlock, e]))⟩, .inl rfl⟩
      · simp [hsize, hcs]; omega
      · rw [hsize, htake]
        have hxl : xs.length = n := by have := hown.1; omega
        simp [List.take_append, hxl]
        exact List.take_of_length_le (by omega)
    · have holds : ∀ j u, xs[j]? = some u → w.cell? ((⟨g, 0, none⟩ : Addr).add j) = some u := hown.cells (g := g) rfl
      obtain ⟨v', w', hr, h2, h3⟩ := run_append_arg_grows (P := P) w t ty e i z 1 bytes ht hi hz hsize hby hzs (by omega) ⟨g, 0, none⟩ n cap xs hown.1 holds a 1 c [x] rfl hnews (by omega) h63 hbytes
      obtain ⟨g2, cap2, rfl, r⟩ := hnew v' w' h2 h3
      exact ⟨g2, cap2, w', hr, r⟩

theorem wpList_run_append {P : Program} {w : World} {ops : Array Oper} {rest : List Oper} {o : Oper} {a : Act} {Q : Exit → Act → World → Prop} (hgd : o.guard = none) (s x : Operand) (t : TypeId)
    (ho : o.op = .call { callee := .builtin .append, args := #[s, x], argTypes := #[t, t] }) {v1 v2 v' : Value} {w' : World} (hs : a.eval s = v1) (hx : a.eval x = v2)
    (hr : (Builtin.append_ #[t, t] o.type #[v1, v2]).run P w = .ok v' w') (h : wpList P ops Q rest (a.put o.dst v') w') : wpList P ops Q (o :: rest) a w :=
  wpList_plain hgd fun K hK => by
    unfold Oper.wp execOp
    simp only [ho, resolve, invoke, builtin, Sem.run_bind, Sem.run_pure, Result.andThen_ok, List.map_toArray, List.map_cons, List.map_nil, hs, hx, hr]
    exact hK _ _ h

/-- The order, nil while there is nothing. -/
def OrdW (w : World) (v : Value) (E : List Ent) : Prop := (v = .slice none 0 0 ∧ E = []) ∨ ∃ g cap, v = .slice (some ⟨g, 0, none⟩) E.length cap ∧ HeapW w g cap E
def obk (v : Value) : List Nat := v.ownBlock.toList
theorem OrdW.owns {w : World} {v : Value} {E : List Ent} (h : OrdW w v E) : w.ownsRow 0 112 1 v E.length (E.map Ent.ptr) := by
  rcases h with ⟨rfl, rfl⟩ | ⟨g, cap, rfl, hH⟩
  · exact World.ownsRow_nil _ _ _ _
  · obtain ⟨⟨r, h1, h2, h3⟩, _⟩ := hH
    exact blk_owns (by simp) h1 h2 h3
theorem OrdW.slot {w : World} {v : Value} {E : List Ent} (h : OrdW w v E) : ∀ (i : Nat) (e : Ent), E[i]? = some e → Blk w e.blk 114 (e.cells i) := by
  rcases h with ⟨rfl, rfl⟩ | ⟨g, cap, rfl, hH⟩
  · intro i e he; simp at he
  · exact hH.slot
theorem OrdW.nodup {w : World} {v : Value} {E : List Ent} (h : OrdW w v E) : (obk v ++ E.map Ent.blk).Nodup := by
  rcases h with ⟨rfl, rfl⟩ | ⟨g, cap, rfl, hH⟩
  · simp [obk, Value.ownBlock]
  · simpa [obk, Value.ownBlock] using hH.nodup
theorem info_slotp : (Try.prog.info? 112).map (fun i => (i.zero, i.size, i.bytes)) = some (some (.pointer none), 1, 8) := by kernel_rfl

theorem typeAssert_slot (v : Value) (w : World) : (Instr.typeAssert (.iface 112 v) 20 112 true).run Try.prog w = .ok (.tuple #[v, .bool true]) w := by kernel_rfl

/-- What the order's Push leaves. -/
def PushedW (w w' : World) (b : Nat) (l : List Value) (v : Value) (E : List Ent) (e : Ent) : Prop :=
  ∃ g cap, HeapW w' g cap (E ++ [e]) ∧ Blk w' b 110 (l.set 2 (.slice (some ⟨g, 0, none⟩) (E.length + 1) cap)) ∧ Mods (b :: e.blk :: (obk v ++ E.map Ent.blk)) w w' ∧ (g ∈ obk v ∨ w.heap.size ≤ g)

set_option maxRecDepth 100000 in
set_option maxHeartbeats 1600000 in
theorem oPush_any {w : World} {b p : Nat} {v : Value} {E : List Ent} {e : Ent} {l : List Value} (h : OrdW w v E) (hB : Blk w b 110 l) (hl2 : l[2]? = some v) (hbn : b ∉ obk v ++ E.map Ent.blk) (hS : Blk w e.blk 114 (e.cells p))
    (hen : e.blk ∉ obk v ++ E.map Ent.blk) (heb : e.blk ≠ b) (hsm : E.length < 1000000) :
    Calls Try.prog 131 #[.pointer (some ⟨b, 2, none⟩), .iface 112 (.pointer (some ⟨e.blk, 0, none⟩))] w fun x w' => x = .returned (.tuple #[]) ∧ PushedW w w' b l v E e := by
  obtain ⟨sa, sn, sc, hv⟩ : ∃ sa sn sc, v = .slice sa sn sc := by
    rcases h with ⟨rfl, _⟩ | ⟨g, cap, rfl, _⟩
    · exact ⟨_, _, _, rfl⟩
    · exact ⟨_, _, _, rfl⟩
  have hsn : sn = E.length := by
    rcases h with ⟨rfl, rfl⟩ | ⟨g, cap, rfl, _⟩
    · injection hv with _ e2; exact e2.symm
    · injection hv with _ e2; exact e2.symm
  have hcell : w.cell? ⟨b, 2, none⟩ = some (.slice sa sn sc) := by rw [← hv]; exact hB.cell hl2
  have c6 := hS.cell (i := 6) rfl
  have f6 := hS.free 6
  obtain ⟨w1, hw1⟩ : ∃ w1, w.setCell ⟨e.blk, 6, none⟩ (.int .i64 (E.length : Nat)) = w1 := ⟨_, rfl⟩
  have hm1 : Mods [e.blk] w w1 := by rw [← hw1]; exact (Mods.refl _ _).setCell (p := ⟨e.blk, 6, none⟩) (.inl (by simp)) _
  have hs1 : Blk w1 e.blk 114 (e.cells E.length) := by rw [← hw1]; exact hS.set 6 _
  have hb1 : Blk w1 b 110 l := hB.keep hm1 (by simp; exact Ne.symm heb)
  have hcell1 : w1.cell? ⟨b, 2, none⟩ = some (.slice sa sn sc) := by rw [← hv]; exact hb1.cell hl2
  have hown1 : w1.ownsRow 0 112 1 v E.length (E.map Ent.ptr) := by
    obtain ⟨k1, k2⟩ := h.owns
    refine ⟨k1, ?_⟩
    rcases k2 with k2 | ⟨g, cap, cur, hv2, hg, hh, r⟩
    · exact .inl k2
    · refine .inr ⟨g, cap, cur, hv2, hg, hm1.keep hh ?_, r⟩
      simp; rintro rfl; exact hen (by rw [hv2]; simp [obk, Value.ownBlock])
  obtain ⟨i0, hi, hz0, hz1, hz2⟩ := info_parts info_slotp
  obtain ⟨w2, hw2⟩ : ∃ w2, w1.alloc (.cells #[.pointer (some ⟨e.blk, 0, none⟩)] 112) = w2 := ⟨_, rfl⟩
  have hm2 : Mods [] w1 w2 := by rw [← hw2]; exact (Mods.refl _ _).alloc _
  have hown2 : w2.ownsRow 0 112 1 v E.length (E.map Ent.ptr) := by rw [← hw2]; exact hown1.alloc _
  obtain ⟨g, cap, w3, hrun, hown3, hg3, hwhere⟩ := append_sharp (P := Try.prog) w2 107 107 112 i0 _ 8 Try.underlying107 hi hz0 hz1 hz2 (by omega) rfl v E.length _ hown2 ⟨w1.heap.size, 0, none⟩ 1 (.pointer (some ⟨e.blk, 0, none⟩))
    (by rw [← hw2, addr_add0]; exact (Blk.new w1 112 [.pointer (some ⟨e.blk, 0, none⟩)]).cell rfl) rfl hsm
  have hm3 : Mods (obk v) w2 w3 := (Mods.refl _ _).grown hg3 (fun k hk => .inl (by simp [obk, hk]))
  have hb3 : Blk w3 b 110 l := (hb1.keep hm2 (by simp)).keep hm3 (fun hx => hbn (List.mem_append_left _ hx))
  have hcell3 : w3.cell? ⟨b, 2, none⟩ = some (.slice sa sn sc) := by rw [← hv]; exact hb3.cell hl2
  have hf3 := hb3.free 2
  have FIN : PushedW w (w3.setCell ⟨b, 2, none⟩ (.slice (some ⟨g, 0, none⟩) (E.length + 1) cap)) b l v E e := by
    obtain ⟨r, hr1, hr2, hr3⟩ := owns_blk hown3
    have hsz2 : w2.heap.size = w.heap.size + 1 := by rw [← hw2, ← hw1]; simp
    have hgb : b ≠ g := by
      rintro rfl
      rcases hwhere with hx | hx
      · exact hbn (List.mem_append_left _ (by simp [obk, hx]))
      · have := hB.lt; omega
    have hge : e.blk ≠ g := by
      rintro rfl
      rcases hwhere with hx | hx
      · exact hen (List.mem_append_left _ (by simp [obk, hx]))
      · have := hS.lt; omega
    have hmB : Mods [b] w3 (w3.setCell ⟨b, 2, none⟩ (.slice (some ⟨g, 0, none⟩) (E.length + 1) cap)) := (Mods.refl _ _).setCell (p := ⟨b, 2, none⟩) (.inl (by simp)) _
    have hgE : g ∉ E.map Ent.blk := by
      intro hx
      rcases hwhere with hy | hy
      · exact (List.nodup_append.1 h.nodup).2.2 g (by simp [obk, hy]) g hx rfl
      · obtain ⟨x, hx1, rfl⟩ := List.mem_map.1 hx
        obtain ⟨j, hj⟩ := List.getElem?_of_mem hx1
        have := (h.slot j x hj).lt
        omega
    refine ⟨g, cap, ⟨⟨r, ?_, by simp; omega, hr3⟩, ?_, ?_⟩, hb3.set 2 _, ?_, ?_⟩
    · have := hr1.keep hmB (by simp; exact Ne.symm hgb)
      rw [List.map_append]; exact this
    · intro i x hx
      by_cases hi : i < E.length
      · rw [List.getElem?_append_left hi] at hx
        have hmem : x.blk ∈ E.map Ent.blk := List.mem_map.2 ⟨x, List.mem_of_getElem? hx, rfl⟩
        have hxe : x.blk ≠ e.blk := fun hy => hen (by rw [← hy]; exact List.mem_append_right _ hmem)
        have hxb : x.blk ≠ b := fun hy => hbn (by rw [← hy]; exact List.mem_append_right _ hmem)
        have hxv : x.blk ∉ obk v := fun hy => (List.nodup_append.1 h.nodup).2.2 _ hy _ hmem rfl
        exact ((((h.slot i x hx).keep hm1 (by simpa using hxe)).keep hm2 (by simp)).keep hm3 hxv).keep hmB (by simpa using hxb)
      · have hi2 : i = E.length := by
          have := (List.getElem?_eq_some_iff.1 hx).1
          simp at this; omega
        subst hi2
        simp at hx
        subst hx
        exact ((hs1.keep hm2 (by simp)).keep hm3 (fun hx => hen (List.mem_append_left _ hx))).keep hmB (by simpa using heb)
    · have hE := (List.nodup_append.1 h.nodup).2.1
      simp only [List.map_append, List.map_cons, List.map_nil, List.nodup_cons, List.mem_append, List.mem_singleton, not_or]
      refine ⟨⟨hgE, Ne.symm hge⟩, List.nodup_append.2 ⟨hE, by simp, ?_⟩⟩
      intro a ha c hc
      simp at hc; subst hc
      rintro rfl
      exact hen (List.mem_append_right _ ha)
    · have a1 : Mods (b :: e.blk :: (obk v ++ E.map Ent.blk)) w w1 := hm1.mono (by simp)
      have a2 := a1.trans hm2 (by simp)
      have a3 := a2.trans hm3 (fun k hk => .inl (by simp [hk]))
      exact a3.trans hmB (fun k hk => .inl (by simp at hk; simp [hk]))
    · rcases hwhere with hy | hy
      · exact .inl (by simp [obk, hy])
      · exact .inr (by omega)
  have FINH := Lib.hid FIN
  clear FIN
  have HV := Lib.hid hv
  have hsz1 : w1.heap.size = w.heap.size := by rw [← hw1]; simp
  rw [hv, hsz1, ← hw2, ← hw1] at hrun
  have HRUN := Lib.hid hrun
  clear hrun
  have hta := typeAssert_slot (.pointer (some ⟨e.blk, 0, none⟩))
  subst hsn
  rw [← hw1] at hcell1
  generalize hen1 : E.length = n at *
  clear hsz1 hw1 hw2 hb3 hm3 hg3 hown3 hown2 hm2 hown1 hb1 hs1 hm1 hS hB h hbn hen hz0 hz1 hz2 hi hwhere hl2 hv hen1
  go_enter Try.func131, Try.ntmps131
  go_wp2_with (at_builtin; refine wpList_run_append rfl (.tmp 22) (.tmp 24) 107 rfl rfl rfl HRUN.out ?_)
  go_end0
  exact ⟨rfl, FINH.out⟩
end Go.Proofs.Ytahaecieklfhkaa
