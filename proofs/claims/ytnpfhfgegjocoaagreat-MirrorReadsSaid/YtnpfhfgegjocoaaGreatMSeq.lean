/- The mirror's Bad, at most 12 places bad: a slice; nothing that lay before turns. -/
import Derived.Test.YtnpfhfgegjocoaaGreatMQ
import Derived.Deep.RegionHeld3
import Derived.Deep.CutRange
import Derived.Test.YtnpfhfgegjocoaaGreatMJ
/- The mirror's comparing of bad places: it answers some number, and nothing that lay before turns. -/
namespace Go.Proofs.YtnpfhfgegjocoaaGreat
open Go.RowKit

theorem isNaNI_any {w : World} (a : Int) : Calls Tryz.prog 147 #[.int .i64 a] w fun e w' => e = .returned (.bool false) ∧ w = w' := by
  go_enter Tryz.func147, Tryz.ntmps147
  go_wp2_with fail
  go_ret
  exact ⟨by simp, rfl⟩
theorem cmpI_any {w : World} (a c : Int) : Calls Tryz.prog 99 #[.int .i64 a, .int .i64 c] w fun e w' => ∃ v : Int, e = .returned (.int .i64 v) ∧ w = w' := by
  go_enter Tryz.func99, Tryz.ntmps99
  by_cases h1 : a < c
  · go_wp2_with (go_at_call 147; refine (isNaNI_any _).mono ?_; rintro e w' ⟨rfl, rfl⟩)
    go_ret
    exact ⟨_, rfl, rfl⟩
  · by_cases h2 : c < a
    · go_wp2_with (go_at_call 147; refine (isNaNI_any _).mono ?_; rintro e w' ⟨rfl, rfl⟩)
      go_ret
      exact ⟨_, rfl, rfl⟩
    · go_wp2_with (go_at_call 147; refine (isNaNI_any _).mono ?_; rintro e w' ⟨rfl, rfl⟩)
      go_ret
      exact ⟨_, rfl, rfl⟩
theorem cmpOrI_two {w : World} {g : Nat} (u v : Int) (hb : Blk w g 3 [.int .i64 u, .int .i64 v]) : Calls Tryz.prog 98 #[.slice (some ⟨g, 0, none⟩) 2 2] w fun e w' => ∃ z : Int, e = .returned (.int .i64 z) ∧ w = w' := by
  have c0 := hb.cell (i := 0) rfl
  have c1 := hb.cell (i := 1) rfl
  go_enter Tryz.func98, Tryz.ntmps98
  go_wp2_with fail
  refine wp_loop_rounds 3 ?_
  rw [rounds_succ]
  by_cases h1 : u = 0
  · go_wp2_with fail
    rw [rounds_succ]
    by_cases h2 : v = 0
    · go_wp2_with fail
      rw [rounds_succ]
      go_wp2_with fail
      go_ret
      exact ⟨_, rfl, rfl⟩
    · go_wp2_with fail
      go_ret
      exact ⟨_, rfl, rfl⟩
  · go_wp2_with fail
    go_ret
    exact ⟨_, rfl, rfl⟩
set_option maxRecDepth 100000 in
theorem mBad1_any {w : World} (a0 a1 c0 c1 : Int) : Calls Tryz.prog 97 #[.agg #[.int .i64 a0, .int .i64 a1], .agg #[.int .i64 c0, .int .i64 c1]] w fun e w' => ∃ z : Int, e = .returned (.int .i64 z) ∧ Hid (Mods [] w w') := by
  go_enter Tryz.func97, Tryz.ntmps97
  go_wp2_with fail
  obtain ⟨w1, hw1⟩ : ∃ w1, ((w.alloc (.cells #[.int .i64 a0, .int .i64 a1] 194)).alloc (.cells #[.int .i64 c0, .int .i64 c1] 194)) = w1 := ⟨_, rfl⟩
  have s1 : (w.alloc (.cells #[.int .i64 a0, .int .i64 a1] 194)).heap.size = w.heap.size + 1 := Array.size_push _
  have hm1 : Mods [] w w1 := by rw [← hw1]; exact ((Mods.refl _ _).alloc _).alloc _
  have b0 : Blk w1 w.heap.size 194 [.int .i64 a0, .int .i64 a1] := by rw [← hw1]; exact (Blk.new w 194 _).alloc _
  have b1 : Blk w1 (w.heap.size + 1) 194 [.int .i64 c0, .int .i64 c1] := by rw [← hw1, ← s1]; exact Blk.new (w.alloc (.cells #[.int .i64 a0, .int .i64 a1] 194)) 194 _
  have y0 := b0.cell (i := 0) rfl
  have y1 := b0.cell (i := 1) rfl
  have y2 := b1.cell (i := 0) rfl
  have y3 := b1.cell (i := 1) rfl
  have HM := Lib.hid hm1
  have n0 := World.new_ne w1 _ y0
  have n2 := World.new_ne w1 _ y2
  obtain ⟨p0, hp0⟩ : ∃ p0, w.heap.size = p0 := ⟨_, rfl⟩
  obtain ⟨p1, hp1⟩ : ∃ p1, p0 + 1 = p1 := ⟨_, rfl⟩
  rw [hp0, hp1] at y2 y3 n2
  rw [hp0] at y0 y1 n0
  rw [hw1, hp0, hp1]
  clear hw1 s1 hm1 b0 b1 hp0 hp1
  go_region_held3 (fun w' => w'.cell? ⟨p0, 0, none⟩ = some (.int .i64 a0) ∧ w'.cell? ⟨p0, 1, none⟩ = some (.int .i64 a1) ∧ w'.cell? ⟨p1, 0, none⟩ = some (.int .i64 c0) ∧ w'.cell? ⟨p1, 1, none⟩ = some (.int .i64 c1))
    (first | go_keep | fail)
    (first
    | (go_at_call 99; refine (cmpI_any _ _).mono ?_; rintro e w' ⟨v, rfl, rfl⟩)
    | (go_at_call 98; refine (cmpOrI_two _ _ (by first | exact Blk.new _ _ _ | exact (Blk.new _ _ _).drewN _ | fail)).mono ?_; rintro e w' ⟨z, rfl, rfl⟩)
    | fail)
  all_goals go_wp2_with fail
  all_goals go_ret
  all_goals exact ⟨_, rfl, Lib.hid ((HM.out.alloc _).drew)⟩
end Go.Proofs.YtnpfhfgegjocoaaGreat
/- insertionSortCmpFunc over a row of bad places: it returns, and the row stays one of places. -/
namespace Go.Proofs.YtnpfhfgegjocoaaGreat
open Go.RowKit

/-- A block of so many numbers. -/
def NumB (w : World) (g m : Nat) : Prop := ∃ (cs : List Int) (r : List Value), Blk w g 194 ((cs.map fun v : Int => Value.int .i64 v) ++ r) ∧ cs.length = m
section
variable {w w' : World} {g m : Nat}
theorem NumB.keep (h : NumB w g m) (hm : Mods [] w w') : NumB w' g m := by
  obtain ⟨cs, r, h1, h2⟩ := h
  exact ⟨cs, r, h1.keep hm (by simp), h2⟩
theorem NumB.cell (h : NumB w g m) {i : Nat} (hi : i < m) : ∃ v : Int, w.cell? ⟨g, i, none⟩ = some (.int .i64 v) := by
  obtain ⟨cs, r, h1, h2⟩ := h
  exact ⟨cs[i], h1.cell (i := i) (by rw [List.getElem?_append_left (by rw [List.length_map]; omega), List.getElem?_map, List.getElem?_eq_getElem (by omega)]; rfl)⟩
theorem NumB.free (h : NumB w g m) (i : Nat) : w.frozen? ⟨g, i, none⟩ = false := by
  obtain ⟨cs, r, h1, h2⟩ := h
  exact h1.free i
theorem NumB.set (h : NumB w g m) {i : Nat} (hi : i < m) (v : Int) : NumB (w.setCell ⟨g, i, none⟩ (.int .i64 v)) g m := by
  obtain ⟨cs, r, h1, h2⟩ := h
  refine ⟨cs.set i v, r, ?_, by rw [List.length_set]; exact h2⟩
  rw [List.map_set, ← List.set_append_left i _ (by rw [List.length_map]; omega)]
  exact h1.set i _
theorem NumB.lt (h : NumB w g m) : g < w.heap.size := by
  obtain ⟨cs, r, h1, h2⟩ := h
  exact h1.lt
end
set_option maxRecDepth 100000 in
set_option maxHeartbeats 1600000 in
theorem insP_any {W : World} {g m n c : Nat} (h : NumB W g m) (hn : n ≤ 12) (hm : 2 * n ≤ m) :
    Calls Tryz.prog 195 #[.slice (some ⟨g, 0, none⟩) n c, .int .i64 0, .int .i64 (n : Nat), .func (.func 97) #[] #[]] W fun e w' => e = .returned (.tuple #[]) ∧ Hid (Mods [g] W w') ∧ Hid (NumB w' g m) := by
  have H0 := Lib.hid h
  clear h
  go_enter Tryz.func195, Tryz.ntmps195
  go_wp2_with fail
  go_loopw [8] (fun iv wr => ∃ i : Nat, iv = .int .i64 (i : Nat) ∧ Mods [g] W wr ∧ NumB wr g m) (fun iv _ => n - (intOf iv).toNat)
  case atStart => exact ⟨1, rfl, Mods.refl _ _, H0.out⟩
  case round =>
    clear H0
    obtain ⟨i, rfl, hM, hB⟩ := hrel
    have HM := Lib.hid (And.intro hM hB)
    clear hM hB
    by_cases hlt : (i : Int) < (n : Int)
    · go_wp2_with fail
      go_loopw [9] (fun jv wr => ∃ j : Nat, j ≤ i ∧ jv = .int .i64 (j : Nat) ∧ Mods [g] W wr ∧ NumB wr g m) (fun jv _ => (intOf jv).toNat)
      case atStart => exact ⟨i, Nat.le_refl _, rfl, HM.out.1, HM.out.2⟩
      case round =>
        clear HM
        obtain ⟨j, hj, rfl, hM, hB⟩ := hrel
        have HM := Lib.hid (And.intro hM hB)
        clear hM hB
        by_cases h0 : (0 : Int) < (j : Int)
        · obtain ⟨d, hd⟩ : ∃ d : Nat, (j : Int) - 1 = (d : Int) := ⟨j - 1, by omega⟩
          have hdw : IntKind.i64.wrap ((j : Int) - 1) = (d : Int) := by rw [IntKind.wrap_i64]; omega
          have hdw2 : wrap64 ((j : Int) - 1) = (d : Int) := by have := hdw; rw [IntKind.wrap_i64] at this; unfold wrap64; omega
          have hdw3 : IntKind.i64.wrap (d : Int) = (d : Int) := by rw [IntKind.wrap_i64]; omega
          have hdw4 : wrap64 (d : Int) = (d : Int) := by unfold wrap64; omega
          have i5 : (0 : Int) ≤ (d : Int) := by omega
          have i6 : d < n := by omega
          have i7 : j < n := by omega
          have i8 : (0 : Int) ≤ (j : Int) := by omega
          have i1 : ¬ (j : Int) < 0 := by omega
          have h0n : 0 < j := by omega
          have h0d : decide ((0 : Int) < (j : Int)) = true := decide_eq_true h0
          have h0e : decide (0 < j) = true := decide_eq_true h0n
          have i2 : (j : Int) < (n : Int) := by omega
          have i3 : ¬ (d : Int) < 0 := by omega
          have i4 : (d : Int) < (n : Int) := by omega
          have hgl := Lib.hid HM.out.2.lt
          obtain ⟨v0, e0⟩ := HM.out.2.cell (i := j * 2) (by omega)
          obtain ⟨v1, e1⟩ := HM.out.2.cell (i := j * 2 + 1) (by omega)
          obtain ⟨v2, e2⟩ := HM.out.2.cell (i := d * 2) (by omega)
          obtain ⟨v3, e3⟩ := HM.out.2.cell (i := d * 2 + 1) (by omega)
          go_wp2_with fail
          go_region_held3 (fun w' => w'.cell? ⟨g, j * 2, none⟩ = some (.int .i64 v0) ∧ w'.cell? ⟨g, j * 2 + 1, none⟩ = some (.int .i64 v1) ∧ w'.cell? ⟨g, d * 2, none⟩ = some (.int .i64 v2) ∧ w'.cell? ⟨g, d * 2 + 1, none⟩ = some (.int .i64 v3))
            (first | go_keep | exact HD.out | fail)
            ((go_at_call 97; refine (mBad1_any _ _ _ _).mono ?_; rintro e w3 ⟨z, rfl, HM3⟩; have HM4 := Lib.hid (((Mods.refl [] wr).drew).trans HM3.out (by simp)); have HD := Lib.hid (And.intro ((HM4.out.below.cell (p := ⟨g, j * 2, none⟩) hgl.out).trans e0) (And.intro ((HM4.out.below.cell (p := ⟨g, j * 2 + 1, none⟩) hgl.out).trans e1) (And.intro ((HM4.out.below.cell (p := ⟨g, d * 2, none⟩) hgl.out).trans e2) ((HM4.out.below.cell (p := ⟨g, d * 2 + 1, none⟩) hgl.out).trans e3))))))
          have HB3 := Lib.hid (HM.out.2.keep HM4.out)
          obtain ⟨x0, x1, x2, x3⟩ := HD.out
          have f0 := HB3.out.free (j * 2)
          have f1 := HB3.out.free (j * 2 + 1)
          have f2 := HB3.out.free (d * 2)
          have f3 := HB3.out.free (d * 2 + 1)
          have HMM := Lib.hid (HM.out.1.trans HM4.out (by simp))
          have q0 : ¬ j * 2 = d * 2 := by omega
          have q1 : ¬ j * 2 = d * 2 + 1 := by omega
          have q2 : ¬ j * 2 + 1 = d * 2 := by omega
          have q3 : ¬ j * 2 + 1 = d * 2 + 1 := by omega
          have q4 : ¬ d * 2 = j * 2 := by omega
          have q5 : ¬ d * 2 = j * 2 + 1 := by omega
          have q6 : ¬ d * 2 + 1 = j * 2 := by omega
          have q7 : ¬ d * 2 + 1 = j * 2 + 1 := by omega
          by_cases hz : z < 0
          · go_wp2_with fail
            go_region
            go_wp2_with fail
            exact ⟨⟨d, by omega, rfl, ((((HMM.out.setCell (by simp) _).setCell (by simp) _).setCell (by simp) _).setCell (by simp) _).drew, ((((HB3.out.set (by omega) _).set (by omega) _).set (by omega) _).set (by omega) _).keep ((Mods.refl _ _).drew)⟩, by simp only [intOf]; omega⟩
          · go_wp2_with fail
            exact ⟨⟨i + 1, by go_num, HMM.out, HB3.out⟩, by simp [intOf]; omega⟩
        · obtain rfl : j = 0 := by omega
          go_wp2_with fail
          go_quiet (fail)
          go_wp2_with fail
          exact ⟨⟨i + 1, by go_num, HM.out.1.drewN _, HM.out.2.keep ((Mods.refl _ _).drewN _)⟩, by simp [intOf]; omega⟩
    · go_wp2_with fail
      go_end0
      exact ⟨rfl, Lib.hid HM.out.1, Lib.hid HM.out.2⟩
end Go.Proofs.YtnpfhfgegjocoaaGreat
/- slices.SortFunc over at most 12 bad places: it returns, and the row stays one of places. -/
namespace Go.Proofs.YtnpfhfgegjocoaaGreat
open Go.RowKit

set_option maxRecDepth 100000 in
theorem bLen64_small {w : World} {n : Nat} (hn : n ≤ 12) : Calls Tryz.prog 193 #[.int .u64 (n : Nat)] w fun e w' => ∃ v : Int, e = .returned (.int .i64 v) ∧ w = w' := by
  have h1 : ¬ (4294967296 : Int) ≤ (n : Int) := by omega
  have h2 : ¬ (65536 : Int) ≤ (n : Int) := by omega
  have h3 : ¬ (256 : Int) ≤ (n : Int) := by omega
  have h4 : IntKind.u8.wrap (n : Int) = (n : Int) := by rw [IntKind.wrap_u8]; omega
  have h5 : (n : Int) < 256 := by omega
  have h6 : ¬ (n : Int) < 0 := by omega
  have h7 : n < 256 := by omega
  go_enter Tryz.func193, Tryz.ntmps193
  go_wp2_with fail
  go_ret
  first | exact ⟨⟨_, rfl⟩, rfl⟩ | exact ⟨_, rfl⟩ | exact ⟨_, rfl, rfl⟩
theorem bLen_small {w : World} {n : Nat} (hn : n ≤ 12) : Calls Tryz.prog 171 #[.int .u64 (n : Nat)] w fun e w' => ∃ v : Int, e = .returned (.int .i64 v) ∧ w = w' := by
  have cB := Lib.hid (bLen64_small (w := w) hn)
  go_enter Tryz.func171, Tryz.ntmps171
  go_wp2_with (go_at_call 193; refine cB.out.mono ?_; rintro e w' ⟨v, rfl, rfl⟩)
  go_ret
  exact ⟨_, rfl, rfl⟩
theorem pdqP_any {W : World} {g m n c : Nat} (h : NumB W g m) (hn : n ≤ 12) (hm : 2 * n ≤ m) (v : Int) :
    Calls Tryz.prog 177 #[.slice (some ⟨g, 0, none⟩) n c, .int .i64 0, .int .i64 (n : Nat), .int .i64 v, .func (.func 97) #[] #[]] W fun e w' => e = .returned (.tuple #[]) ∧ Hid (Mods [g] W w') ∧ Hid (NumB w' g m) := by
  have cI := Lib.hid (insP_any (c := c) h hn hm)
  have h1 : IntKind.i64.wrap (n : Int) = (n : Int) := by rw [IntKind.wrap_i64]; omega
  have h2 : (n : Int) ≤ 12 := by omega
  clear h
  go_enter Tryz.func177, Tryz.ntmps177
  go_wp2_with fail
  refine wp_loop_rounds 1 ?_
  rw [rounds_succ]
  go_wp2_with (go_at_call 195; refine cI.out.mono ?_; rintro e w' ⟨rfl, HM, HB⟩)
  first | refine bodyPost_ret (results_none rfl _ _ _) rfl ?_ | (simp only [Exit.inBlock, Exit.then]; refine bodyPost_ret (results_none rfl _ _ _) rfl ?_)
  exact ⟨rfl, HM, HB⟩
theorem sortFP_any {W : World} {g m n c : Nat} (h : NumB W g m) (hn : n ≤ 12) (hm : 2 * n ≤ m) :
    Calls Tryz.prog 145 #[.slice (some ⟨g, 0, none⟩) n c, .func (.func 97) #[] #[]] W fun e w' => e = .returned (.tuple #[]) ∧ Hid (Mods [g] W w') ∧ Hid (NumB w' g m) := by
  have cI := Lib.hid (fun v => pdqP_any (c := c) h hn hm v)
  have cL := Lib.hid (bLen_small (w := W) hn)
  have h1 : IntKind.u64.wrap (n : Int) = (n : Int) := by rw [IntKind.wrap_u64]; omega
  clear h
  go_enter Tryz.func145, Tryz.ntmps145
  go_wp2_with (first | (go_at_call 171; refine cL.out.mono ?_; rintro e w' ⟨v, rfl, rfl⟩) | (go_at_call 177; refine (cI.out _).mono ?_; rintro e w' ⟨rfl, HM, HB⟩))
  go_end0
  exact ⟨rfl, HM, HB⟩
end Go.Proofs.YtnpfhfgegjocoaaGreat
/- slices.AppendSeq, slices.Collect and maps.Keys at the mirror's places. The walks of AppendSeq and Collect follow the kit's worked proof of the same functions at strings. -/
namespace Go.Proofs.YtnpfhfgegjocoaaGreat
open Go.RowKit Go.Maps Go.Sort Go.Shelf

theorem info_place : (Tryz.prog.info? 194).map (fun i => (i.zero, i.size, i.bytes)) = some (some (.agg #[.int .i64 0, .int .i64 0]), 2, 16) := by kernel_rfl
/-- A world that turned in one walk's object alone. -/
def Soft (n : Nat) (W W' : World) : Prop := ∃ r, Mods [r] W W' ∧ n ≤ r ∧ ∀ o, W.heap[r]? = some o → o.isWalk = true
/-- An iterator that gives so many places at most. -/
def SeqK (F : Fence) (n : Nat) (g : Nat) (lb : Array Value) (N : Nat) (w : World) : Prop :=
  ∀ (l : Nat) (J : List (Nat × Nat) → World → Prop) (W : World), Below w.heap.size w W → (∀ pre W1, J pre W1 → Below w.heap.size w W1) → (∀ pre W1 W2, J pre W1 → Soft w.heap.size W1 W2 → J pre W2) →
    (∀ pre x W1, J pre W1 → pre.length < N → YieldAt F (n - 1) Tryz.prog l #[kvPl x] W1 fun e W' => e = .returned (.bool true) ∧ J (pre ++ [x]) W' ∧ KeepsWalks W1 W') →
    J [] W →
    CallsIn F n Tryz.prog g (#[.func (.yield l) #[] #[]] ++ lb) W fun e W' => (∃ v, e = .returned v) ∧ ∃ xs, xs.length ≤ N ∧ J xs W'
def pcs (x : Nat × Nat) : List Value := [.int .i64 (x.1 : Nat), .int .i64 (x.2 : Nat)]
/-- BETWEEN TWO ROUNDS: the box holds a slice that owns, in a block of the call's own, what has come so far. -/
structure ApP (w0 : World) (fn : FuncId) (sv : Value) (Bs l D : Nat) (ss : List (Nat × Nat)) (W : World) : Prop where
  box : ∃ v, W.heap[Bs]? = some (.cells #[v] 83 (0, 0)) ∧ W.ownsRow w0.heap.size 194 2 v ss.length (ss.flatMap pcs) ∧ (v = .slice none 0 0 ↔ ss = [])
  L : W.heap[l]? = some (.loop (apRecP fn sv Bs D .ready none))
  K : W.heap[D]? = some (.deferred (some []))
  below : Below w0.heap.size w0 W
theorem ownsRow_soft {W W' : World} {base : Nat} {e : TypeId} {size : Nat} {v : Value} {k : Nat} {xs : List Value} {r : Nat} (h : W.ownsRow base e size v k xs) (hm : Mods [r] W W') (hr : ∀ o, W.heap[r]? = some o → o.isWalk = true) : W'.ownsRow base e size v k xs := by
  refine owns_keepF h hm (fun g hg hx => ?_)
  have e := List.mem_singleton.1 hx
  subst e
  have hl := (h.lt g hg).2
  have ho : W.heap[g]? = some W.heap[g] := Array.getElem?_eq_getElem hl
  have hw := hr _ ho
  rcases ownsRow_ne_a h ho (fun cur e => by rw [e] at hw; cases hw) with e | e
  · rw [e] at hg; cases hg
  · exact e hg
theorem ApP.soft {w0 : World} {fn : FuncId} {sv : Value} {Bs l D : Nat} {ss : List (Nat × Nat)} {W W' : World} (h : ApP w0 fn sv Bs l D ss W) (hs : Soft w0.heap.size W W') : ApP w0 fn sv Bs l D ss W' := by
  obtain ⟨r, hm, hr, hw⟩ := hs
  obtain ⟨v, hv, hrow, hnil⟩ := h.box
  have ne : ∀ {k : Nat} {o : Obj}, W.heap[k]? = some o → o.isWalk = false → k ∉ [r] := fun hk ho hx => by
    have e := List.mem_singleton.1 hx
    subst e
    rw [hw _ hk] at ho; cases ho
  refine ⟨⟨v, hm.keep hv (ne hv rfl), ownsRow_soft hrow hm hw, hnil⟩, hm.keep h.L (ne h.L rfl), hm.keep h.K (ne h.K rfl), ((Mods.of_below h.below []).trans hm (fun k hk => .inr (by rw [List.mem_singleton.1 hk]; exact hr))).below⟩
theorem cells_two_new (w : World) (a c : Value) (t : TypeId) (g : Nat) (hg : w.heap.size = g) : ∀ j u, [a, c][j]? = some u → (w.alloc (.cells #[a, c] t)).cell? ((⟨g, 0, none⟩ : Addr).add j) = some u := by
  intro j u hu
  subst hg
  have := (Blk.new w t [a, c]).cell hu
  rw [addr_add, Nat.zero_add]
  exact this

set_option maxRecDepth 100000 in
set_option maxHeartbeats 2000000 in
theorem apYieldP (F : Fence) (m : Nat) (w0 : World) (fn : FuncId) (hfn : F.fn fn) (sv : Value) (Bs l D : Nat) (hBl : Bs ≠ l) (hDl : D ≠ l) (hDB : D ≠ Bs) (h0B : w0.heap.size ≤ Bs) (h0l : w0.heap.size ≤ l)
    (N : Nat) (hN : N ≤ maxLen) (hNb : N * 16 ≤ 140737488355328) (ss : List (Nat × Nat)) (x : Nat × Nat) (W : World) (h : ApP w0 fn sv Bs l D ss W) (hlen : ss.length < N) :
    YieldAt F m Tryz.prog l #[kvPl x] W fun e W' => e = .returned (.bool true) ∧ ApP w0 fn sv Bs l D (ss ++ [x]) W' ∧ KeepsWalks W W' := by
  obtain ⟨i0, hi, hz0, hz1, hz2⟩ := info_parts info_place
  obtain ⟨v, hv, hrow, _⟩ := h.box
  refine ⟨fn, #[.slice none 0 0, sv, .pointer (some ⟨Bs, 0, none⟩), undef, .slice none 0 0, undef, sv, kvPl x, undef, undef, undef, undef, undef], apAssignP, apBodyP, by simpa [apRecP] using run_yield (P := Tryz.prog) (args := #[kvPl x]) h.L rfl, roundIn_of_wpIn hfn ?_⟩
  have hl : l < W.heap.size := (Array.getElem?_eq_some_iff.1 h.L).1
  obtain ⟨Wa, hWa⟩ : ∃ Wa, W.alloc (.cells #[.int .i64 (x.1 : Nat), .int .i64 (x.2 : Nat)] 194) = Wa := ⟨_, rfl⟩
  obtain ⟨A1, hA1⟩ : ∃ A1, W.heap.size = A1 := ⟨_, rfl⟩
  have hBa0 : Blk Wa A1 194 [.int .i64 (x.1 : Nat), .int .i64 (x.2 : Nat)] := by rw [← hWa, ← hA1]; exact Blk.new W 194 _
  have hva0 : Wa.heap[Bs]? = some (.cells #[v] 83 (0, 0)) := by rw [← hWa]; exact (Below.heap_alloc _ _ Bs (Array.getElem?_eq_some_iff.1 hv).1).trans hv
  have hKa0 : Wa.heap[D]? = some (.deferred (some [])) := by rw [← hWa]; exact (Below.heap_alloc _ _ D (Array.getElem?_eq_some_iff.1 h.K).1).trans h.K
  have hLa0 : Wa.heap[l]? = some (.loop (apRecP fn sv Bs D .ready none)) := by rw [← hWa]; exact (Below.heap_alloc _ _ l hl).trans h.L
  have hrowa0 : Wa.ownsRow w0.heap.size 194 2 v ss.length (ss.flatMap pcs) := by rw [← hWa]; exact hrow.alloc _
  have hba0 : Below w0.heap.size w0 Wa := by rw [← hWa]; exact h.below.alloc h.below.size _
  have hka0 : KeepsWalks W Wa := by rw [← hWa]; exact KeepsWalks.alloc _ _
  have hbr := run_beginRound (P := Tryz.prog) hLa0 rfl
  obtain ⟨W2, hW2⟩ : ∃ W2, Wa.putObj l (.loop { apRecP fn sv Bs D .ready none with state := .busy }) = W2 := ⟨_, rfl⟩
  rw [hW2] at hbr
  have hg2 : Wa.grownBy W2 (some l) := by rw [← hW2]; exact grownBy_putObj_a _ _ _
  have hka : KeepsWalks W W2 := by rw [← hW2]; exact hka0.trans (KeepsWalks.putObj _ hLa0 rfl)
  have hva : W2.heap[Bs]? = some (.cells #[v] 83 (0, 0)) := by rw [← hW2]; exact (World.putObj_heap_other hBl).trans hva0
  have hKa : W2.heap[D]? = some (.deferred (some [])) := by rw [← hW2]; exact (World.putObj_heap_other hDl).trans hKa0
  have hLa : W2.heap[l]? = some (.loop { apRecP fn sv Bs D .ready none with state := .busy }) := by rw [← hW2]; exact World.putObj_heap_same (Array.getElem?_eq_some_iff.1 hLa0).1
  have hrowa : W2.ownsRow w0.heap.size 194 2 v ss.length (ss.flatMap pcs) := hrowa0.kept hg2 (ownsRow_ne_a hrowa0 hLa0 (fun cur e => by cases e))
  have hba : Below w0.heap.size w0 W2 := hba0.grown hg2 hba0.size (fun k e => by cases e; exact h0l)
  have hBa : Blk W2 A1 194 [.int .i64 (x.1 : Nat), .int .i64 (x.2 : Nat)] := by rw [← hW2]; exact (World.putObj_heap_other (by omega)).trans hBa0
  have ca0 := hBa.cell (i := 0) rfl
  have ca1 := hBa.cell (i := 1) rfl
  clear hW2 hBa0 hva0 hKa0 hLa0 hrowa0 hba0 hka0 hg2 hv hrow hBa
  unfold kvPl
  conv in apAssignP => whnf
  gi_wp2_with gi_round_op_a
  try rw [hWa, hA1]
  clear hWa hA1 hbr
  obtain ⟨hc2, hf2⟩ := cell_of_box_a hva
  have hBlt : Bs < W2.heap.size := (Array.getElem?_eq_some_iff.1 hva).1
  have hl2 : l < W2.heap.size := (Array.getElem?_eq_some_iff.1 hLa).1
  have hDlt : D < W2.heap.size := (Array.getElem?_eq_some_iff.1 hKa).1
  have ne_of : ∀ {j : Nat} {o : Obj}, W2.heap[j]? = some o → (∀ cur, o ≠ .cells cur 194 (0, 0)) → some j ≠ v.ownBlock := fun hj hno => by
    rcases ownsRow_ne_a hrowa hj hno with e | e
    · rw [e]; simp
    · exact fun e' => e e'.symm
  conv in apBodyP => whnf
  gi_wp2_with (first
    | (gi_at_builtin; refine wpListIn_append_own _ rfl _ _ 83 rfl w0.heap.size 194 i0 (.agg #[.int .i64 0, .int .i64 0]) 2 16 Tryz.underlying83 hi hz0 hz1 hz2 rfl (by decide) _ _ _ rfl (hrowa.alloc _) ⟨W2.heap.size, 0, none⟩ 1 1 [.int .i64 (x.1 : Nat), .int .i64 (x.2 : Nat)] rfl rfl (cells_two_new _ _ _ _ _ rfl) (by simp [Value.oneCell']) (by omega) (by omega) (by have := hba.size; simp; omega) ?_; intro v' w3 hown' hg3 hnil3
       have hv3 : w3.heap[Bs]? = some (.cells #[v] 83 (0, 0)) := (hg3.block Bs (by simp; omega) (ne_of hva (fun cur e => by cases e))).trans ((Below.heap_alloc _ _ Bs hBlt).trans hva)
       obtain ⟨hc3, hf3⟩ := cell_of_box_a hv3
       obtain ⟨g', cap', cur', rfl, hbase', hgb', hr1, hr2, hr3, hr4⟩ : ∃ g' cap' cur', v' = .slice (some ⟨g', 0, none⟩) (ss.length + 1) cap' ∧ w0.heap.size ≤ g' ∧ w3.heap[g']? = some (.cells cur' 194 (0, 0)) ∧ ss.length + 1 ≤ cap' ∧ cap' ≤ maxLen ∧ cur'.size = cap' * 2 ∧ cur'.toList.take ((ss.length + 1) * 2) = ss.flatMap pcs ++ [.int .i64 (x.1 : Nat), .int .i64 (x.2 : Nat)] := by
         rcases hown'.2 with ⟨_, h0⟩ | h'
         · exact absurd h0 (by omega)
         · exact h'
       go_frame)
    | gi_round_op_a)
  have hg3' : (W2.alloc (.cells #[.int .i64 (x.1 : Nat), .int .i64 (x.2 : Nat)] 194)).grownBy w3 v.ownBlock := hg3
  have hL3 : w3.heap[l]? = some (.loop { apRecP fn sv Bs D .ready none with state := .busy }) := (hg3'.block l (by simp; omega) (ne_of hLa (fun cur e => by cases e))).trans ((Below.heap_alloc _ _ l hl2).trans hLa)
  have hK3 : w3.heap[D]? = some (.deferred (some [])) := (hg3'.block D (by simp; omega) (ne_of hKa (fun cur e => by cases e))).trans ((Below.heap_alloc _ _ D hDlt).trans hKa)
  obtain ⟨w4, hw4⟩ : ∃ w4, w3.setCell ⟨Bs, 0, none⟩ (.slice (some ⟨g', 0, none⟩) (ss.length + 1) cap') = w4 := ⟨_, rfl⟩
  rw [hw4]
  have hg4 : w3.grownBy w4 (some Bs) := by rw [← hw4]; exact grownBy_setCell0_a _ _ _
  have hv4 : w4.heap[Bs]? = some (.cells #[.slice (some ⟨g', 0, none⟩) (ss.length + 1) cap'] 83 (0, 0)) := by rw [← hw4]; exact heap_setCell_box_a _ hv3
  have hL4 : w4.heap[l]? = some (.loop { apRecP fn sv Bs D .ready none with state := .busy }) := (hg4.block l (Array.getElem?_eq_some_iff.1 hL3).1 (fun e => hBl (by cases e; rfl))).trans hL3
  have hK4 : w4.heap[D]? = some (.deferred (some [])) := (hg4.block D (Array.getElem?_eq_some_iff.1 hK3).1 (fun e => hDB (by cases e; rfl))).trans hK3
  have hrow4 := hown'.kept hg4 (ownsRow_ne_a hown' hv3 (fun cur e => by cases e))
  have hl4 : l < w4.heap.size := (Array.getElem?_eq_some_iff.1 hL4).1
  have hb3 : Below w0.heap.size w0 w3 := (hba.alloc hba.size _).grown hg3' (by have := hba.size; simp; omega) (fun k e => (hrowa.lt k e).1)
  have hb4 : Below w0.heap.size w0 w4 := hb3.grown hg4 hb3.size (fun k e => by cases e; exact h0B)
  have hk4 : KeepsWalks W w4 := ((hka.trans (KeepsWalks.alloc _ _)).trans (KeepsWalks.of_grownBy hg3' (ownsRow_not_walk_a (hrowa.alloc _)))).trans (by rw [← hw4]; exact KeepsWalks.setCell _ _ _)
  clear hw4
  refine ⟨_, _, run_endRound none hL4, rfl, ⟨⟨_, (World.putObj_heap_other hBl).trans hv4, ?_, by simp⟩, World.putObj_heap_same hl4, (World.putObj_heap_other hDl).trans hK4, hb4.grown (grownBy_putObj_a _ _ _) hb4.size (fun k e => by cases e; exact h0l)⟩, hk4.trans (KeepsWalks.putObj _ hL4 rfl)⟩
  have := hrow4.kept (grownBy_putObj_a w4 l (.loop { { apRecP fn sv Bs D .ready none with state := .busy } with state := if (none : Option Code).isNone then .ready else .done, pending := none })) (ownsRow_ne_a hrow4 hL4 (fun cur e => by cases e))
  simpa [pcs] using this

set_option maxRecDepth 100000 in
set_option maxHeartbeats 2000000 in
/-- slices.AppendSeq(nil, seq). -/
theorem appendSeqP_in (F : Fence) (n : Nat) (h11 : F.fn 176) (hro : F.round = none) (hn : 2 ≤ n) (g : Nat) (lb : Array Value) (hFg : F.fn g) (eg : ∀ args w, (callFunc g args).run Tryz.prog w = .ok (.enter g args) w)
    (N : Nat) (hN : N ≤ maxLen) (hNb : N * 16 ≤ 140737488355328) (w : World) (hseq : SeqK F (n - 1) g lb N w) :
    CallsIn F n Tryz.prog 176 #[.slice none 0 0, .func (.func g) #[] lb] w fun e w' => ∃ (v : Value) (ss : List (Nat × Nat)), e = .returned v ∧ ss.length ≤ N ∧ w'.ownsRow w.heap.size 194 2 v ss.length (ss.flatMap pcs) ∧ (v = .slice none 0 0 ↔ ss = []) ∧ Below w.heap.size w w' := by
  have h1 : 1 ≤ n := by omega
  refine callsIn_of_wp_marks Tryz.func176 rfl h11 ?_ hro
  simp only [Tryz.ntmps176, List.size_toArray, List.length_cons, List.length_nil, Nat.reduceAdd, Nat.reduceSub, Array.replicate_succ, Array.replicate_zero, List.push_toArray, List.append_toArray, List.nil_append, List.cons_append]
  gi_wp2
  refine wpIn_rangeFunc ?_
  intro fn hfn
  rw [hro]
  obtain ⟨W0, hW0⟩ : ∃ W0, w.alloc (.cells #[.slice none 0 0] 83) = W0 := ⟨_, rfl⟩
  have hs0 : W0.heap.size = w.heap.size + 1 := by rw [← hW0]; simp
  have hv0 : W0.heap[w.heap.size]? = some (.cells #[.slice none 0 0] 83 (0, 0)) := by rw [← hW0]; exact World.alloc_heap_new w _
  have hb0 : Below w.heap.size w W0 := by rw [← hW0]; exact (Below.refl _ w).alloc (Nat.le_refl _) _
  rw [hW0]
  obtain ⟨W1, hW1⟩ : ∃ W1, (W0.alloc (.deferred (some []))).alloc (.loop (apRecP fn (.func (.func g) #[] lb) w.heap.size W0.heap.size .ready none)) = W1 := ⟨_, rfl⟩
  have hold : ∀ k, k < W0.heap.size → W1.heap[k]? = W0.heap[k]? := fun k hk => by
    rw [← hW1]; exact (Below.heap_alloc _ _ k (by simp; omega)).trans (Below.heap_alloc _ _ k hk)
  have hb1 : Below w.heap.size w W1 := by rw [← hW1]; exact (hb0.alloc hb0.size _).alloc (by have := hb0.size; simp; omega) _
  have hs1 : W1.heap.size = W0.heap.size + 2 := by rw [← hW1]; simp
  have hM : ApP w fn (.func (.func g) #[] lb) w.heap.size (W0.heap.size + 1) W0.heap.size [] W1 :=
    ⟨⟨_, (hold w.heap.size (by omega)).trans hv0, ⟨rfl, .inl ⟨rfl, rfl⟩⟩, by simp⟩,
     by rw [← hW1]; have := World.alloc_heap_new (W0.alloc (.deferred (some []))) (.loop (apRecP fn (.func (.func g) #[] lb) w.heap.size W0.heap.size .ready none)); rwa [World.size_alloc] at this,
     by rw [← hW1]; exact (Below.heap_alloc _ _ _ (by simp)).trans (World.alloc_heap_new W0 _), hb1⟩
  refine ⟨W0.heap.size + 1, [{ target := .collected W0.heap.size, args := #[] }], W1, { target := .fn (.func g) lb, args := #[.func (.yield (W0.heap.size + 1)) #[] #[]] }, W1, g,
    #[.func (.yield (W0.heap.size + 1)) #[] #[]] ++ lb, W1, ?_, ?_, ?_, ?_, fun _ => h1, ?_⟩
  · rw [← hW1]; exact run_enterLoop_outer _ _ _ _ _
  · simp [resolve, go_sem]
  · intro f' hf'; simp [Target.leads] at hf'; subst hf'; exact hFg
  · simp [invoke, go_sem, eg]
  · refine (hseq (W0.heap.size + 1) (ApP w fn (.func (.func g) #[] lb) w.heap.size (W0.heap.size + 1) W0.heap.size) W1 hb1 (fun pre x h => h.below) (fun pre W1 W2 h hs => h.soft hs)
      (fun pre x W hJ hl => apYieldP F (n - 1 - 1) w fn hfn _ w.heap.size (W0.heap.size + 1) W0.heap.size (by omega) (by omega) (by omega) (Nat.le_refl _) (by omega) N hN hNb pre x W hJ hl) hM).mono ?_
    rintro e W2 ⟨⟨v0, rfl⟩, ss, hS, h2⟩
    obtain ⟨v, hv, hrow, hnil⟩ := h2.box
    have hend := run_endLoop (P := Tryz.prog) h2.L (by simp [apRecP])
    obtain ⟨W3, hW3⟩ : ∃ W3, W2.putObj (W0.heap.size + 1) (.loop { apRecP fn (.func (.func g) #[] lb) w.heap.size W0.heap.size .ready none with state := .exhausted }) = W3 := ⟨_, rfl⟩
    rw [hW3] at hend
    have hg3 : W2.grownBy W3 (some (W0.heap.size + 1)) := by rw [← hW3]; exact grownBy_putObj_a _ _ _
    have hv3 : W3.heap[w.heap.size]? = some (.cells #[v] 83 (0, 0)) := by rw [← hW3]; exact (World.putObj_heap_other (by omega)).trans hv
    have hK3 : W3.heap[W0.heap.size]? = some (.deferred (some [])) := by rw [← hW3]; exact (World.putObj_heap_other (by omega)).trans h2.K
    have hrow3 := hrow.kept hg3 (ownsRow_ne_a hrow h2.L (fun cur e => by cases e))
    have hb3 : Below w.heap.size w W3 := h2.below.grown hg3 h2.below.size (fun k e => by cases e; omega)
    obtain ⟨hc3, hf3⟩ := cell_of_box_a hv3
    clear hW3
    refine ⟨none, W3, hend, ?_⟩
    gi_wp2
    rw [← hs0]
    refine ⟨by simp, .inl ⟨_, _, rfl, run_takeDeferred hK3, ?_⟩⟩
    exact ⟨_, results_tmp rfl _ _ _, v, ss, rfl, hS, hrow3.kept (grownBy_putObj_a _ _ _) (ownsRow_ne_a hrow3 hK3 (fun cur e => by cases e)), hnil, hb3.grown (grownBy_putObj_a _ _ _) hb3.size (fun k e => by cases e; omega)⟩

set_option maxHeartbeats 1000000 in
/-- slices.Collect(seq). -/
theorem collectP_in (F : Fence) (n : Nat) (h8 : F.fn 144) (h11 : F.fn 176) (hro : F.round = none) (hn : 3 ≤ n) (g : Nat) (lb : Array Value) (hFg : F.fn g) (eg : ∀ args w, (callFunc g args).run Tryz.prog w = .ok (.enter g args) w)
    (N : Nat) (hN : N ≤ maxLen) (hNb : N * 16 ≤ 140737488355328) (w : World) (hseq : SeqK F (n - 1 - 1) g lb N w) :
    CallsIn F n Tryz.prog 144 #[.func (.func g) #[] lb] w fun e w' => ∃ (v : Value) (ss : List (Nat × Nat)), e = .returned v ∧ ss.length ≤ N ∧ w'.ownsRow w.heap.size 194 2 v ss.length (ss.flatMap pcs) ∧ (v = .slice none 0 0 ↔ ss = []) ∧ Below w.heap.size w w' := by
  have h1 : 1 ≤ n := by omega
  refine callsIn_of_wp Tryz.func144 rfl h8 ?_ hro
  simp only [Tryz.ntmps144, List.size_toArray, List.length_cons, List.length_nil, Nat.reduceAdd, Nat.reduceSub, Array.replicate_succ, Array.replicate_zero, List.push_toArray, List.append_toArray, List.nil_append, List.cons_append]
  gi_wp2_with (gi_at_call 176; refine (appendSeqP_in F (n - 1) h11 hro (by omega) g lb hFg eg N hN hNb _ hseq).mono ?_; rintro e w' ⟨v, ss, rfl, hS, hrow, hnil, hb⟩)
  go_ret
  exact ⟨v, ss, rfl, hS, hrow, hnil, hb⟩
end Go.Proofs.YtnpfhfgegjocoaaGreat
namespace Go.Proofs.YtnpfhfgegjocoaaGreat
open Go.RowKit Go.Maps Go.Sort Go.Shelf

theorem RangeK.walks {κ : Type} {kv : κ → Value} {w w1 : World} {r b : Nat} {F : κ → Option Value} {D : κ → Prop} {left : Nat} (h : RangeK kv w r b F D left) (hk : KeepsWalks w w1) : RangeK kv w1 r b F D left := by
  obtain ⟨es, clock, since, seen, c0, h1, h2, h3, h4, h5, h6⟩ := h
  exact ⟨es, clock, since, seen, c0, hk.same _ _ h1 rfl, h2, h3, h4, hk.same _ _ h5 rfl, h6⟩
theorem RangeK.isWalk {κ : Type} {kv : κ → Value} {w : World} {r b : Nat} {F : κ → Option Value} {D : κ → Prop} {left : Nat} (h : RangeK kv w r b F D left) : ∀ o, w.heap[r]? = some o → o.isWalk = true := by
  obtain ⟨es, clock, since, seen, c0, h1, h2, h3, h4, h5, h6⟩ := h
  intro o ho
  rw [h5] at ho
  injection ho with ho
  rw [← ho]; rfl
theorem Soft.new {n : Nat} {W W' : World} (h : Mods [] W W') (hn : n ≤ W.heap.size) : Soft n W W' :=
  ⟨W.heap.size, h.mono (by simp), hn, fun o ho => by rw [Array.getElem?_eq_none (Nat.le_refl _)] at ho; cases ho⟩
set_option maxRecDepth 100000 in
set_option maxHeartbeats 2000000 in
/-- maps.Keys's iterator over a map of places. -/
theorem keysP1_in (F : Fence) (n : Nat) (h62 : F.fn 146) (hro : F.round = none) (hn : 1 ≤ n) (Bs mb : Nat) (f : Nat × Nat → Option Value) (N : Nat) (w : World) (hBs : w.cell? ⟨Bs, 0, none⟩ = some (.map (some mb))) (hM : MapK kvPl w mb f N) :
    SeqK F n 146 #[.pointer (some ⟨Bs, 0, none⟩)] N w := by
  intro l J W hW hJ hS hY h0
  have hBs' := (hW.cell (p := ⟨Bs, 0, none⟩) (World.block_lt_of_cell? w _ hBs)).trans hBs
  have hM' : MapK kvPl W mb f N := hM.keep (L := []) (Mods.of_below hW []) (by simp)
  obtain ⟨w1, hr, hK, hm1, hs1⟩ := hM'.range (P := Tryz.prog) (T := 178) Tryz.underlying178
  have hwW : w.heap.size ≤ W.heap.size := hW.size
  have HY := Lib.hid hY
  have HJ := Lib.hid hJ
  have HS := Lib.hid hS
  have hne : W.heap.size ≠ mb := fun e => by have := hM'.lt; omega
  have H0 := Lib.hid (And.intro (hS _ _ _ h0 (Soft.new hm1 hwW)) hK)
  clear hY hJ hS hM hM' h0 hBs hW hm1 hK hs1
  refine callsIn_of_wp Tryz.func146 rfl h62 ?_ hro
  simp only [Tryz.ntmps146, List.size_toArray, List.length_cons, List.length_nil, Nat.reduceAdd, Nat.reduceSub, Array.replicate_succ, Array.replicate_zero, List.push_toArray, List.append_toArray, List.nil_append, List.cons_append]
  gi_wp2
  obtain ⟨R, hR⟩ : ∃ R, W.heap.size = R := ⟨_, rfl⟩
  rw [hR] at H0 hne hwW
  rw [hR]
  clear hR hr hBs'
  gi_loopw [6] (fun _ wr => ∃ (pre : List (Nat × Nat)) (D : Nat × Nat → Prop) (left : Nat), pre.length + left ≤ N ∧ J pre wr ∧ RangeK kvPl wr R mb f D left) (fun _ wr => leftI wr R mb)
  case atStart => exact ⟨[], _, N, by simp, H0.out.1, H0.out.2⟩
  case round =>
    clear H0
    obtain ⟨pre, D, left, hlen, hJs, hRg⟩ := hrel
    have hl := hRg.leftI
    have hiw := hRg.isWalk
    rcases hRg.next (P := Tryz.prog) kvPl_inj hne 0 with ⟨_, _, h⟩ | ⟨a, v, w2, left1, _, _, hnx, hent, hR2, hlt, hm2, hs2⟩
    · have hnx : ∀ ty, (Instr.next (.pointer (some ⟨R, 0, none⟩)) false ty).run Tryz.prog wr = .ok (.tuple #[.bool false]) wr := fun _ => h
      have HJs := Lib.hid hJs
      clear hRg hJs hiw hl h
      gi_wp2
      go_end0
      exact ⟨⟨_, rfl⟩, pre, by omega, HJs.out⟩
    · have hnx : ∀ ty, (Instr.next (.pointer (some ⟨R, 0, none⟩)) false ty).run Tryz.prog wr = .ok (.tuple #[.bool true, kvPl a, v]) w2 := fun _ => hnx
      have hJ2 := HS.out _ _ _ hJs ⟨R, hm2, hwW, hiw⟩
      obtain ⟨w3, hw3⟩ : ∃ w3, w2.alloc (.cells #[.int .i64 (a.1 : Nat), .int .i64 (a.2 : Nat)] 194) = w3 := ⟨_, rfl⟩
      have hB3 : Blk w3 w2.heap.size 194 [.int .i64 (a.1 : Nat), .int .i64 (a.2 : Nat)] := by rw [← hw3]; exact Blk.new w2 194 _
      have d0 := hB3.cell (i := 0) rfl
      have d1 := hB3.cell (i := 1) rfl
      have hm3 : Mods [] w2 w3 := by rw [← hw3]; exact (Mods.refl _ _).alloc _
      have hJ3 := HS.out _ _ _ hJ2 (Soft.new hm3 (by have := hR2.lt.1; omega))
      have HR3 := Lib.hid (hR2.keep hm3 (by simp) (by simp))
      obtain ⟨fn, tmps, assign, body, hy, hRy⟩ := HY.out _ a w3 hJ3 (by omega)
      clear hRg hJs hiw hJ2 hR2 hm2 hs2 hm3 hJ3
      unfold kvPl at hnx hent hy
      gi_wp2
      try rw [hw3]
      try simp only [hy]
      refine hRy.mono ?_
      rintro e W3 ⟨rfl, hJ4, hk4⟩
      gi_wp2
      go_roundw
      case rel => exact ⟨pre ++ [a], _, left1, by simp; omega, hJ4, HR3.out.walks hk4⟩
      case measure => rw [(HR3.out.walks hk4).leftI, hl]; exact hlt
theorem ints_places : ∀ ss : List (Nat × Nat), ss.flatMap pcs = (ss.flatMap fun x => [(x.1 : Int), (x.2 : Int)]).map fun v : Int => Value.int .i64 v
  | [] => rfl
  | a :: ss => by
    rw [List.flatMap_cons, List.flatMap_cons, List.map_append, ints_places ss]; rfl
theorem ints_len : ∀ ss : List (Nat × Nat), (ss.flatMap fun x => [(x.1 : Int), (x.2 : Int)]).length = 2 * ss.length
  | [] => rfl
  | a :: ss => by
    rw [List.flatMap_cons, List.length_append, ints_len ss, List.length_cons]
    simp; omega
/-- A row of places that is owned is a block of numbers. -/
theorem numB_of {w : World} {base : Nat} {v : Value} {ss : List (Nat × Nat)} (h : w.ownsRow base 194 2 v ss.length (ss.flatMap pcs)) (hne : 0 < ss.length) : ∃ g c, v = .slice (some ⟨g, 0, none⟩) ss.length c ∧ base ≤ g ∧ NumB w g (2 * ss.length) := by
  rcases h.2 with ⟨_, h0⟩ | ⟨g, c, cur, rfl, hb, hg, _, _, _, ht⟩
  · omega
  · refine ⟨g, c, rfl, hb, ss.flatMap (fun x => [(x.1 : Int), (x.2 : Int)]), cur.toList.drop (ss.length * 2), ?_, ints_len ss⟩
    rw [← ints_places, ← ht, List.take_append_drop]
    exact hg
/-- slices.SortedFunc of the iterator over a map of at most 12 places. -/
theorem sortedFP_any {w : World} {Bs mb N : Nat} {f : Nat × Nat → Option Value} (hN : N ≤ 12) (hBs : w.cell? ⟨Bs, 0, none⟩ = some (.map (some mb))) (hM : MapK kvPl w mb f N) :
    Calls Tryz.prog 95 #[.func (.func 146) #[] #[.pointer (some ⟨Bs, 0, none⟩)], .func (.func 97) #[] #[]] w fun e w' => ∃ A n c, e = .returned (.slice A n c) ∧ Mods [] w w' := by
  have cC := callsIn_wide.1 (collectP_in Fence.wide 3 trivial trivial rfl (by omega) 146 #[.pointer (some ⟨Bs, 0, none⟩)] trivial (enters_of Tryz.func146 (by kernel_rfl) rfl) N (by unfold maxLen; omega) (by omega) w (keysP1_in Fence.wide (3 - 1 - 1) trivial rfl (by omega) Bs mb f N w hBs hM))
  have cC2 := Lib.hid cC
  clear cC hBs hM
  go_enter Tryz.func95, Tryz.ntmps95
  go_upto_region 2 with (go_at_call 144; refine cC2.out.mono ?_; rintro e w1 ⟨v, ss, rfl, hlen, hrow, hnil, hb⟩; have HB := Lib.hid hb; clear hb)
  by_cases hss : ss = []
  · obtain rfl := hnil.2 hss
    clear hrow hnil hss hlen
    go_wp2_with (go_at_call 145; refine (sortFP_0 _).mono ?_; rintro e w' ⟨rfl, rfl⟩)
    go_ret
    exact ⟨_, _, _, rfl, Mods.of_below HB.out []⟩
  · have hpos : 0 < ss.length := List.length_pos_iff.2 hss
    obtain ⟨g, c, rfl, hg, hNB⟩ := numB_of hrow hpos
    obtain ⟨m, hm⟩ : ∃ m, ss.length = m := ⟨_, rfl⟩
    rw [hm] at hNB hlen
    rw [hm]
    have cS := Lib.hid (sortFP_any (c := c) hNB (by omega) (Nat.le_refl _))
    clear hrow hnil hss hNB hm hpos
    go_wp2_with (go_at_call 145; refine cS.out.mono ?_; rintro e w2 ⟨rfl, HM2, _⟩)
    go_ret
    exact ⟨_, _, _, rfl, (Mods.of_below HB.out []).trans HM2.out (fun k hk => .inr (by rw [List.mem_singleton.1 hk]; exact hg))⟩
/-- Bad, where at most 12 places are bad. -/
theorem mBad_any {W : World} {b p tb mb : Nat} {gp : List Nat} {x : Nat → Nat} {fx : Nat → List Nat} {M : Mi} (h : IsM W b p tb mb gp x fx M) (hb : M.bl.length ≤ 12) :
    Calls Tryz.prog 42 #[.pointer (some ⟨b, 0, none⟩)] W fun e w' => ∃ A n c, e = .returned (.slice A n c) ∧ Hid (Mods [] W w') := by
  have hmap := h.map
  have y2 := Blk.cell h.blk (i := 2) rfl
  have cS := Lib.hid (sortedFP_any (w := W.alloc (.cells #[.map (some mb)] 178)) (Bs := W.heap.size) (mb := mb) hb ((Blk.new W 178 [.map (some mb)]).cell (i := 0) rfl) (hmap.keep (L := []) ((Mods.refl _ _).alloc _) (by simp)))
  clear h hmap hb
  go_enter Tryz.func42, Tryz.ntmps42
  go_wp2_with (first | (go_at_call 96; refine (keysP_any _ _).mono ?_; rintro e w1 ⟨rfl, rfl⟩) | (go_at_call 95; refine cS.out.mono ?_; rintro e w2 ⟨A, n, c, rfl, hm⟩; have HM := Lib.hid hm; clear hm))
  go_ret
  exact ⟨_, _, _, rfl, Lib.hid (((Mods.refl [] W).alloc _).trans HM.out (by simp))⟩
end Go.Proofs.YtnpfhfgegjocoaaGreat
