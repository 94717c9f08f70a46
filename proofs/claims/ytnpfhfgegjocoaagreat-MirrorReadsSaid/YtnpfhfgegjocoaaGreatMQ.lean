/- MirrorQuiet's state: what is known of blocks and which text each has, in two maps; a mirror of which no sector is bad. -/
import Derived.Test.YtnpfhfgegjocoaaGreatMH
import Derived.Test.YtnpfhfgegjocoaaGreatMG
import Derived.Shelf.SlIter.Collect
import Derived.RangeFuncBox
import Derived.RangeFuncLeaves
import Derived.WalkKit
import Derived.OwnWalkIn
import Derived.TacticsInMore
import Derived.RegionIn
import Derived.LoopNIn
import Derived.LoopIn
import Derived.Test.YtnpfhfgegjocoaaGreatMJ
import Derived.Test.YtnpfhfgegjocoaaGreatMI
/- The mirror's Bad where no place is bad: maps.Keys of an empty map, slices.SortedFunc of it. The walks of AppendSeq and Collect follow the kit's worked proof of the same functions at strings. -/
namespace Go.Proofs.YtnpfhfgegjocoaaGreat
open Go.RowKit Go.Maps Go.Sort Go.Shelf

def rfPartsP : Code → Option (Code × Code)
  | .rangeFunc _ _ a c => some (a, c)
  | .seq x y => match rfPartsP x with
    | some r => some r
    | none => rfPartsP y
  | .block _ c => rfPartsP c
  | .scope c => rfPartsP c
  | _ => none
noncomputable def apAssignP : Code := ((Tryz.f176.body.bind rfPartsP).map (·.1)).getD .skip
noncomputable def apBodyP : Code := ((Tryz.f176.body.bind rfPartsP).map (·.2)).getD .skip
noncomputable def apRecP (fn : FuncId) (sv : Value) (Bs D : Nat) (st : LoopState) (pend : Option Code) : Loop :=
  { state := st, pending := pend, fn, tmps := #[.slice none 0 0, sv, .pointer (some ⟨Bs, 0, none⟩), undef, .slice none 0 0, undef, sv, undef, undef, undef, undef, undef, undef], params := #[7], assign := apAssignP, body := apBodyP, defers := D }
/-- An iterator that gives nothing. -/
def SeqN (F : Fence) (n : Nat) (g : Nat) (lb : Array Value) (w : World) : Prop :=
  ∀ (l : Nat) (W : World), Below w.heap.size w W → CallsIn F n Tryz.prog g (#[.func (.yield l) #[] #[]] ++ lb) W fun e W' => (∃ v, e = .returned v) ∧ Mods [] W W'
set_option maxRecDepth 100000 in
set_option maxHeartbeats 2000000 in
theorem appendSeqP_none (F : Fence) (n : Nat) (h11 : F.fn 176) (hro : F.round = none) (hn : 2 ≤ n) (g : Nat) (lb : Array Value) (hFg : F.fn g) (eg : ∀ args w, (callFunc g args).run Tryz.prog w = .ok (.enter g args) w)
    (w : World) (hseq : SeqN F (n - 1) g lb w) :
    CallsIn F n Tryz.prog 176 #[.slice none 0 0, .func (.func g) #[] lb] w fun e w' => e = .returned (.slice none 0 0) ∧ Below w.heap.size w w' := by
  have h1 : 1 ≤ n := by omega
  refine callsIn_of_wp_marks Tryz.func176 rfl h11 ?_ hro
  simp only [Tryz.ntmps176, List.size_toArray, List.length_cons, List.length_nil, Nat.reduceAdd, Nat.reduceSub, Array.replicate_succ, Array.replicate_zero, List.push_toArray, List.append_toArray, List.nil_append, List.cons_append]
  gi_wp2
  refine wpIn_rangeFunc ?_
  intro fn hfn
  rw [hro]
  obtain ⟨W0, hW0⟩ : ∃ W0, w.alloc (.cells #[.slice none 0 0] 83) = W0 := ⟨_, rfl⟩
  have hs0 : W0.heap.size = w.heap.size + 1 := by rw [← hW0]; simp
  have hv0 : W0.heap[w.heap.size]? = some (.cells #[.slice none 0 0] 83 (0, 0)) := by rw [← hW0]; exact World.alloc_heap_new w _
  have hb0 : Below w.heap.size w W0 := by rw [← hW0]; exact (Below.refl _ w).alloc (Nat.le_refl _) _
  rw [hW0]
  obtain ⟨W1, hW1⟩ : ∃ W1, (W0.alloc (.deferred (some []))).alloc (.loop (apRecP fn (.func (.func g) #[] lb) w.heap.size W0.heap.size .ready none)) = W1 := ⟨_, rfl⟩
  have hold : ∀ k, k < W0.heap.size → W1.heap[k]? = W0.heap[k]? := fun k hk => by
    rw [← hW1]; exact (Below.heap_alloc _ _ k (by simp; omega)).trans (Below.heap_alloc _ _ k hk)
  have hb1 : Below w.heap.size w W1 := by rw [← hW1]; exact (hb0.alloc hb0.size _).alloc (by have := hb0.size; simp; omega) _
  have hs1 : W1.heap.size = W0.heap.size + 2 := by rw [← hW1]; simp
  have hL1 : W1.heap[W0.heap.size + 1]? = some (.loop (apRecP fn (.func (.func g) #[] lb) w.heap.size W0.heap.size .ready none)) := by rw [← hW1]; have := World.alloc_heap_new (W0.alloc (.deferred (some []))) (.loop (apRecP fn (.func (.func g) #[] lb) w.heap.size W0.heap.size .ready none)); rwa [World.size_alloc] at this
  have hK1 : W1.heap[W0.heap.size]? = some (.deferred (some [])) := by rw [← hW1]; exact (Below.heap_alloc _ _ _ (by simp)).trans (World.alloc_heap_new W0 _)
  have hB1 := (hold w.heap.size (by omega)).trans hv0
  refine ⟨W0.heap.size + 1, [{ target := .collected W0.heap.size, args := #[] }], W1, { target := .fn (.func g) lb, args := #[.func (.yield (W0.heap.size + 1)) #[] #[]] }, W1, g,
    #[.func (.yield (W0.heap.size + 1)) #[] #[]] ++ lb, W1, ?_, ?_, ?_, ?_, fun _ => h1, ?_⟩
  · rw [← hW1]; exact run_enterLoop_outer _ _ _ _ _
  · simp [resolve, go_sem]
  · intro f' hf'; simp [Target.leads] at hf'; subst hf'; exact hFg
  · simp [invoke, go_sem, eg]
  · refine (hseq (W0.heap.size + 1) W1 hb1).mono ?_
    rintro e W2 ⟨⟨v0, rfl⟩, hm2⟩
    have hL2 := hm2.keep hL1 (by simp)
    have hK2 := hm2.keep hK1 (by simp)
    have hB2 := hm2.keep hB1 (by simp)
    have hb2 : Below w.heap.size w W2 := ((Mods.of_below hb1 []).trans hm2 (by simp)).below
    have hend := run_endLoop (P := Tryz.prog) hL2 (by simp [apRecP])
    obtain ⟨W3, hW3⟩ : ∃ W3, W2.putObj (W0.heap.size + 1) (.loop { apRecP fn (.func (.func g) #[] lb) w.heap.size W0.heap.size .ready none with state := .exhausted }) = W3 := ⟨_, rfl⟩
    rw [hW3] at hend
    have hg3 : W2.grownBy W3 (some (W0.heap.size + 1)) := by rw [← hW3]; exact grownBy_putObj_a _ _ _
    have hv3 : W3.heap[w.heap.size]? = some (.cells #[.slice none 0 0] 83 (0, 0)) := by rw [← hW3]; exact (World.putObj_heap_other (by omega)).trans hB2
    have hK3 : W3.heap[W0.heap.size]? = some (.deferred (some [])) := by rw [← hW3]; exact (World.putObj_heap_other (by omega)).trans hK2
    have hb3 : Below w.heap.size w W3 := hb2.grown hg3 hb2.size (fun k e => by cases e; omega)
    obtain ⟨hc3, hf3⟩ := cell_of_box_a hv3
    clear hW3
    refine ⟨none, W3, hend, ?_⟩
    gi_wp2
    rw [← hs0]
    refine ⟨by simp, .inl ⟨_, _, rfl, run_takeDeferred hK3, ?_⟩⟩
    exact ⟨_, results_tmp rfl _ _ _, rfl, hb3.grown (grownBy_putObj_a _ _ _) hb3.size (fun k e => by cases e; omega)⟩
theorem collectP_none (F : Fence) (n : Nat) (h8 : F.fn 144) (h11 : F.fn 176) (hro : F.round = none) (hn : 3 ≤ n) (g : Nat) (lb : Array Value) (hFg : F.fn g) (eg : ∀ args w, (callFunc g args).run Tryz.prog w = .ok (.enter g args) w)
    (w : World) (hseq : SeqN F (n - 1 - 1) g lb w) :
    CallsIn F n Tryz.prog 144 #[.func (.func g) #[] lb] w fun e w' => e = .returned (.slice none 0 0) ∧ Below w.heap.size w w' := by
  have h1 : 1 ≤ n := by omega
  refine callsIn_of_wp Tryz.func144 rfl h8 ?_ hro
  simp only [Tryz.ntmps144, List.size_toArray, List.length_cons, List.length_nil, Nat.reduceAdd, Nat.reduceSub, Array.replicate_succ, Array.replicate_zero, List.push_toArray, List.append_toArray, List.nil_append, List.cons_append]
  gi_wp2_with (gi_at_call 176; refine (appendSeqP_none F (n - 1) h11 hro (by omega) g lb hFg eg _ hseq).mono ?_; rintro e w' ⟨rfl, hb⟩)
  go_ret
  exact ⟨rfl, hb⟩
set_option maxRecDepth 100000 in
set_option maxHeartbeats 1000000 in
/-- The iterator over an empty map. -/
theorem keysP1_none (F : Fence) (n : Nat) (h62 : F.fn 146) (hro : F.round = none) (Bs mb : Nat) (w : World) (hBs : w.cell? ⟨Bs, 0, none⟩ = some (.map (some mb))) (hM : MapK kvPl w mb (fun _ => none) 0) :
    SeqN F n 146 #[.pointer (some ⟨Bs, 0, none⟩)] w := by
  intro l W hW
  have hBs' := (hW.cell (p := ⟨Bs, 0, none⟩) (World.block_lt_of_cell? w _ hBs)).trans hBs
  have hM' : MapK kvPl W mb (fun _ => none) 0 := hM.keep (L := []) (Mods.of_below hW []) (by simp)
  obtain ⟨w1, hr, hK, hm1, hs1⟩ := hM'.range (P := Tryz.prog) (T := 178) Tryz.underlying178
  have H0 := Lib.hid (And.intro hK hm1)
  have HM0 := Lib.hid hM'
  refine callsIn_of_wp Tryz.func146 rfl h62 ?_ hro
  simp only [Tryz.ntmps146, List.size_toArray, List.length_cons, List.length_nil, Nat.reduceAdd, Nat.reduceSub, Array.replicate_succ, Array.replicate_zero, List.push_toArray, List.append_toArray, List.nil_append, List.cons_append]
  clear hW hM hM' hK hm1 hs1 hBs
  gi_wp2
  obtain ⟨R, hR⟩ : ∃ R, W.heap.size = R := ⟨_, rfl⟩
  have hne : R ≠ mb := fun e => by have := HM0.out.lt; omega
  rw [hR] at H0
  have hnx : ∀ ty, (Instr.next (.pointer (some ⟨R, 0, none⟩)) false ty).run Tryz.prog w1 = .ok (.tuple #[.bool false]) w1 := fun ty => by
    rcases H0.out.1.next (P := Tryz.prog) kvPl_inj hne ty with ⟨_, _, h⟩ | ⟨a, v, _, _, h, _⟩
    · exact h
    · cases h
  rw [hR]
  clear hR hr hne hBs'
  gi_loopw [6] (fun _ wr => wr = w1) (fun _ _ => 0)
  case atStart => rfl
  case round =>
    subst hrel
    gi_wp2
    go_end0
    exact ⟨⟨_, rfl⟩, H0.out.2⟩
set_option maxHeartbeats 400000 in
/-- maps.Keys: the map is boxed; the iterator has the box. -/
theorem keysP_any (m : Option Nat) (w : World) :
    Calls Tryz.prog 96 #[.map m] w fun e w' => e = .returned (.func (.func 146) #[] #[.pointer (some ⟨w.heap.size, 0, none⟩)]) ∧ w' = w.alloc (.cells #[.map m] 178) := by
  go_enter Tryz.func96, Tryz.ntmps96
  go_wp2
  go_ret
  exact ⟨rfl, rfl⟩
set_option maxRecDepth 100000 in
theorem bLen64_0 {w : World} : Calls Tryz.prog 193 #[.int .u64 0] w fun e w' => e = .returned (.int .i64 0) ∧ w = w' := by
  go_enter Tryz.func193, Tryz.ntmps193
  go_wp2_with fail
  go_ret
  exact ⟨by kernel_rfl, rfl⟩
theorem bLen_0 {w : World} : Calls Tryz.prog 171 #[.int .u64 0] w fun e w' => e = .returned (.int .i64 0) ∧ w = w' := by
  go_enter Tryz.func171, Tryz.ntmps171
  go_wp2_with (go_at_call 193; refine bLen64_0.mono ?_; rintro e w' ⟨rfl, rfl⟩)
  go_ret
  exact ⟨rfl, rfl⟩
theorem insP_0 {w : World} (f : Value) : Calls Tryz.prog 195 #[.slice none 0 0, .int .i64 0, .int .i64 0, f] w fun e w' => e = .returned (.tuple #[]) ∧ w = w' := by
  go_enter Tryz.func195, Tryz.ntmps195
  go_wp2_with fail
  refine wp_loop_rounds 1 ?_
  rw [rounds_succ]
  go_wp2_with fail
  go_end0
  exact ⟨rfl, rfl⟩
theorem pdqP_0 {w : World} (f : Value) : Calls Tryz.prog 177 #[.slice none 0 0, .int .i64 0, .int .i64 0, .int .i64 0, f] w fun e w' => e = .returned (.tuple #[]) ∧ w = w' := by
  go_enter Tryz.func177, Tryz.ntmps177
  go_wp2_with fail
  refine wp_loop_rounds 1 ?_
  rw [rounds_succ]
  go_wp2_with (go_at_call 195; refine (insP_0 _).mono ?_; rintro e w' ⟨rfl, rfl⟩)
  first | refine bodyPost_ret (results_none rfl _ _ _) rfl ?_ | (simp only [Exit.inBlock, Exit.then]; refine bodyPost_ret (results_none rfl _ _ _) rfl ?_)
  exact ⟨rfl, rfl⟩
theorem sortFP_0 {w : World} (f : Value) : Calls Tryz.prog 145 #[.slice none 0 0, f] w fun e w' => e = .returned (.tuple #[]) ∧ w = w' := by
  go_enter Tryz.func145, Tryz.ntmps145
  go_wp2_with (first | (go_at_call 171; refine bLen_0.mono ?_; rintro e w' ⟨rfl, rfl⟩) | (go_at_call 177; refine (pdqP_0 _).mono ?_; rintro e w' ⟨rfl, rfl⟩))
  go_end0
  exact ⟨rfl, rfl⟩
/-- slices.SortedFunc of the iterator over an empty map. -/
theorem sortedFP_0 {w : World} {Bs mb : Nat} (f : Value) (hBs : w.cell? ⟨Bs, 0, none⟩ = some (.map (some mb))) (hM : MapK kvPl w mb (fun _ => none) 0) :
    Calls Tryz.prog 95 #[.func (.func 146) #[] #[.pointer (some ⟨Bs, 0, none⟩)], f] w fun e w' => e = .returned (.slice none 0 0) ∧ Mods [] w w' := by
  have cC := callsIn_wide.1 (collectP_none Fence.wide 3 trivial trivial rfl (by omega) 146 #[.pointer (some ⟨Bs, 0, none⟩)] trivial (enters_of Tryz.func146 (by kernel_rfl) rfl) w (keysP1_none Fence.wide (3 - 1 - 1) trivial rfl Bs mb w hBs hM))
  have cC2 := Lib.hid cC
  clear cC hBs hM
  go_enter Tryz.func95, Tryz.ntmps95
  go_wp2_with (first | (go_at_call 144; refine cC2.out.mono ?_; rintro e w1 ⟨rfl, hb⟩; have HB := Lib.hid hb; clear hb) | (go_at_call 145; refine (sortFP_0 _).mono ?_; rintro e w' ⟨rfl, rfl⟩))
  go_ret
  exact ⟨rfl, Mods.of_below HB.out []⟩
/-- Bad, where no place is bad. -/
theorem mBad_0 {W : World} {b p tb mb : Nat} {gp : List Nat} {x : Nat → Nat} {fx : Nat → List Nat} {M : Mi} (h : IsM W b p tb mb gp x fx M) (hb : M.bl = []) :
    Calls Tryz.prog 42 #[.pointer (some ⟨b, 0, none⟩)] W fun e w' => e = .returned (.slice none 0 0) ∧ Hid (Mods [] W w') := by
  have hmap := h.map
  rw [hb] at hmap
  have y2 := Blk.cell h.blk (i := 2) rfl
  have hM : MapK kvPl W mb (fun _ => none) 0 := by rw [← badF_nil]; exact hmap
  have cS := Lib.hid (sortedFP_0 (w := W.alloc (.cells #[.map (some mb)] 178)) (Bs := W.heap.size) (mb := mb) (.func (.func 97) #[] #[]) ((Blk.new W 178 [.map (some mb)]).cell (i := 0) rfl) (hM.keep (L := []) ((Mods.refl _ _).alloc _) (by simp)))
  clear h hmap hM hb
  go_enter Tryz.func42, Tryz.ntmps42
  go_wp2_with (first | (go_at_call 96; refine (keysP_any _ _).mono ?_; rintro e w1 ⟨rfl, rfl⟩) | (go_at_call 95; refine cS.out.mono ?_; rintro e w2 ⟨rfl, hm⟩; have HM := Lib.hid hm; clear hm))
  go_ret
  exact ⟨rfl, Lib.hid (((Mods.refl [] W).alloc _).trans HM.out (by simp))⟩
theorem oBad0 {_W w : World} {_F : List Nat} {b p : Nat} {x : Nat → Nat} {M : Mi} (h : ∃ tb mb gp fx, IsM w b p tb mb gp x fx M) (hb : M.bl = []) :
    Calls Tryz.prog 42 #[.pointer (some ⟨b, 0, none⟩)] w fun e w' => e = .returned (.slice none 0 0) ∧ Hid (Mods [] w w') := by
  obtain ⟨tb, mb, gp, fx, hI⟩ := h
  exact mBad_0 hI hb
end Go.Proofs.YtnpfhfgegjocoaaGreat
namespace Go.Proofs.YtnpfhfgegjocoaaGreat
open Go.RowKit

/-- What is known of each block: its pointer, its image, its text. -/
def Knt := Nat → Option (PtrE × ByteArray × ByteArray)
def Knt.put (K : Knt) (i : Nat) (q : PtrE) (X t : ByteArray) : Knt := fun a => if a = i then some (q, X, t) else K a
def ktP (K : Knt) : Nat → Option Value := fun a => (K a).map fun y => ptrV y.1
def ktT (K : Knt) : Nat → Option Value := fun a => (K a).map fun y => Value.string y.2.2
theorem ktP_put (K : Knt) (i : Nat) (q : PtrE) (X t : ByteArray) : putF (ktP K) i (ptrV q) = ktP (K.put i q X t) := by
  funext a
  unfold putF ktP Knt.put
  by_cases h : a = i
  · rw [if_pos h, if_pos h]; rfl
  · rw [if_neg h, if_neg h]
theorem ktT_put (K : Knt) (i : Nat) (q : PtrE) (X t : ByteArray) : putF (ktT K) i (.string t) = ktT (K.put i q X t) := by
  funext a
  unfold putF ktT Knt.put
  by_cases h : a = i
  · rw [if_pos h, if_pos h]; rfl
  · rw [if_neg h, if_neg h]
/-- A mirror that no fault has touched: every known block reads what was written last. -/
structure Quiet (M : Mi) (Kr : Knt) (j : Nat) : Prop where
  gm : Gm 14 128 6 (2 * j) M
  sound : Sound M.P
  still : Still 14 6 M.P
  reps : M.reps = 0
  bl : M.bl = []
  known : ∀ i q X t, Kr i = some (q, X, t) → i < 14 ∧ (∃ g, ImgOf X q 128 i g t) ∧ ∀ d, d < 2 → M.P.read d (i : Int) = (X, 0)
/-- The law's state: the mirror, its sums, the two maps (Km), and what reads (Kr). -/
structure QuIn (W w : World) (F : List Nat) (x : Nat → Nat) (b p tk bk bt : Nat) (M : Mi) (Km Kr : Knt) (j : Nat) : Prop where
  own : OwnM W F w b p x M
  qt : Quiet M Kr j
  sum : Blk w tk 172 sumRow
  map : ∃ n, MapK kvI w bk (ktP Km) n
  txt : ∃ n, MapK kvI w bt (ktT Km) n
  mem : tk ∈ F ∧ bk ∈ F ∧ bt ∈ F
  old : W.heap.size ≤ bk ∧ W.heap.size ≤ bt
  ne : bk ≠ tk ∧ bt ≠ tk ∧ bk ≠ bt
section
variable {W w w' : World} {F : List Nat} {x : Nat → Nat} {b p tk bk bt : Nat} {M M' : Mi} {Km Kr Kr' : Knt} {j j' : Nat}
theorem QuIn.go (h : QuIn W w F x b p tk bk bt M Km Kr j) (ho : OwnM W F w' b p x M') (hm : Minds F w w') (hq : Quiet M' Kr' j') : QuIn W w' F x b p tk bk bt M' Km Kr' j' :=
  ⟨ho, hq, hm.blk h.sum h.mem.1, h.map.elim fun n hn => ⟨n, hm.map hn h.mem.2.1⟩, h.txt.elim fun n hn => ⟨n, hm.map hn h.mem.2.2⟩, h.mem, h.old, h.ne⟩
theorem QuIn.calm (h : QuIn W w F x b p tk bk bt M Km Kr j) (hm : Mods [] w w') : QuIn W w' F x b p tk bk bt M Km Kr j := h.go (h.own.still hm) (Minds.of hm) h.qt
theorem Quiet.write (h : Quiet M Kr j) {i g : Nat} (hi : i < 14) {q : PtrE} {X t : ByteArray} (hI : ImgOf X q 128 i g t) : ∃ M', M.write i X = (0, M') ∧ Quiet M' (Kr.put i q X t) (j + 1) := by
  obtain ⟨M', e1, g1, n1, r1, t1, x1, o1, b1⟩ := h.gm.write_ok h.sound hi hI.size
  refine ⟨M', e1, ⟨by rw [show 2 * (j + 1) = 2 * j + 2 by omega]; exact g1, n1, fun s hs => by rw [t1]; exact h.still s hs, r1.trans h.reps, b1 h.bl, fun a qa Xa ta ha => ?_⟩⟩
  unfold Knt.put at ha
  split at ha
  · rename_i e
    subst e
    injection ha with ha
    injection ha with ha1 ha2
    injection ha2 with ha2 ha3
    subst ha1; subst ha2; subst ha3
    exact ⟨hi, ⟨g, hI⟩, x1⟩
  · rename_i hne
    obtain ⟨k1, k2, k3⟩ := h.known a qa Xa ta ha
    exact ⟨k1, k2, fun d hd => (o1 d a hd k1 hne).trans (k3 d hd)⟩
theorem Quiet.flush (h : Quiet M Kr j) : ∃ M', M.flush = (0, M') ∧ Quiet M' Kr j := by
  obtain ⟨M2, e2, g2, a2, r2, b2, t2, o2, _⟩ := h.gm.flush
  refine ⟨M2, e2, ⟨g2, h.sound.alike a2, fun s hs => by rw [t2]; exact h.still s hs, r2.trans h.reps, b2.trans h.bl, fun a qa Xa ta ha => ?_⟩⟩
  obtain ⟨k1, k2, k3⟩ := h.known a qa Xa ta ha
  exact ⟨k1, k2, fun d hd => (o2 d a hd k1).trans (k3 d hd)⟩
theorem quWrite (h : QuIn W w F x b p tk bk bt M Km Kr j) (hj : j ≤ 1000) {i g : Nat} (hi : i < 14) {q : PtrE} {X t : ByteArray} (hI : ImgOf X q 128 i g t) :
    Calls Tryz.prog 29 #[.pointer (some ⟨b, 0, none⟩), .int .i64 (i : Nat), .string X] w fun e w' => ∃ M', e = .returned (.int .i64 0) ∧ Hid (QuIn W w' F x b p tk bk bt M' Km (Kr.put i q X t) (j + 1)) ∧ Hid (Minds F w w') := by
  obtain ⟨M', e1, q1⟩ := h.qt.write hi hI
  refine (oWrite h.own h.qt.gm.fine (by omega) hi hI.size).mono fun e w' ⟨h1, h2, h3⟩ => ⟨M', ?_, ?_, h3⟩
  · rw [h1, e1]; rfl
  · rw [e1] at h2
    exact Lib.hid (h.go h2.out h3.out q1)
theorem quFlush (h : QuIn W w F x b p tk bk bt M Km Kr j) (hj : j ≤ 1000) :
    Calls Tryz.prog 30 #[.pointer (some ⟨b, 0, none⟩)] w fun e w' => ∃ M', e = .returned (.int .i64 0) ∧ Hid (QuIn W w' F x b p tk bk bt M' Km Kr j) ∧ Hid (Minds F w w') := by
  obtain ⟨M', e1, q1⟩ := h.qt.flush
  refine (oFlush h.own h.qt.gm.fine (by omega)).mono fun e w' ⟨h1, h2, h3⟩ => ⟨M', ?_, ?_, h3⟩
  · rw [h1, e1]; rfl
  · rw [e1] at h2
    exact Lib.hid (h.go h2.out h3.out q1)
theorem Quiet.cop (h : Quiet M Kr j) {i : Nat} {q : PtrE} {X t : ByteArray} (hk : Kr i = some (q, X, t)) : i < 14 ∧ (∃ g, ImgOf X q 128 i g t) ∧ Cop M q X i ∧ ∀ s, s < 2 → M.P.read s (i : Int) = (X, 0) := by
  obtain ⟨k1, ⟨g, hI⟩, k3⟩ := h.known i q X t hk
  exact ⟨k1, ⟨g, hI⟩, ⟨fun s hs _ => k3 s hs, ⟨0, by decide, k3 0 (by decide)⟩, hI.meets⟩, k3⟩
theorem quRead (h : QuIn W w F x b p tk bk bt M Km Kr j) (hj : j ≤ 1000) {i : Nat} {q : PtrE} {X t : ByteArray} (hk : Kr i = some (q, X, t)) :
    Calls Tryz.prog 34 #[.pointer (some ⟨b, 0, none⟩), ptrV q] w fun e w' => e = .returned (.tuple #[.int .u8 4, .string t, .int .i64 0]) ∧ Hid (QuIn W w' F x b p tk bk bt M Km Kr j) ∧ Hid (Minds F w w') := by
  obtain ⟨k1, ⟨g, hI⟩, hC, hall⟩ := h.qt.cop hk
  obtain ⟨r1, _, _, _, _, r2⟩ := h.qt.gm.readC hI hC k1
  refine (oRead h.own h.qt.gm.fine (by omega) (by rw [h.qt.reps]; decide) q k1 hI.addr).mono fun e w' ⟨h1, h2, h3⟩ => ?_
  rw [r2 hall] at h2
  rw [r1] at h1
  exact ⟨h1, Lib.hid (h.go h2.out h3.out h.qt), h3⟩
theorem quChk (h : QuIn W w F x b p tk bk bt M Km Kr j) (hj : j ≤ 1000) {i : Nat} {q : PtrE} {X t : ByteArray} (hk : Kr i = some (q, X, t)) :
    Calls Tryz.prog 39 #[.pointer (some ⟨b, 0, none⟩), ptrV q] w fun e w' => e = .returned (.tuple #[.int .i64 0, .int .i64 0]) ∧ Hid (QuIn W w' F x b p tk bk bt M Km Kr j) ∧ Hid (Minds F w w') := by
  obtain ⟨k1, ⟨g, hI⟩, hC, hall⟩ := h.qt.cop hk
  obtain ⟨k, M', e1, _, _, _, _, _, _, r2, _⟩ := h.qt.gm.checkC hI.size hC k1
  obtain ⟨rfl, rfl⟩ := r2 hall
  refine (oChk h.own h.qt.gm.fine (by omega) (by rw [h.qt.reps]; decide) q k1 hI.addr).mono fun e w' ⟨h1, h2, h3⟩ => ?_
  rw [e1] at h1 h2
  exact ⟨h1, Lib.hid (h.go h2.out h3.out h.qt), h3⟩
/-- Both maps take what was written. -/
theorem quStore {i : Nat} {q : PtrE} {X t : ByteArray} (h : QuIn W w F x b p tk bk bt M Km (Kr.put i q X t) j) (hK : Kr = Km) :
    ∃ w1 w2, (Instr.mapUpdate 79 (.map (some bk)) (.int .i64 (i : Nat)) (ptrV q)).run Tryz.prog w = .ok () w1 ∧ (Instr.mapUpdate 81 (.map (some bt)) (.int .i64 (i : Nat)) (.string t)).run Tryz.prog w1 = .ok () w2 ∧ Hid (QuIn W w2 F x b p tk bk bt M (Km.put i q X t) (Km.put i q X t) j) := by
  subst hK
  obtain ⟨n, hn⟩ := h.map
  obtain ⟨m, hm⟩ := h.txt
  obtain ⟨w1, h1, h2, h3, _⟩ := hn.update (P := Tryz.prog) (T := 79) (K := 3) (E := 58) (d := .int .i64) kvI_key kvI_inj Tryz.underlying79 Tryz.underlying3 i (ptrV q)
  obtain ⟨w2, k1, k2, k3, _⟩ := (hm.keep h3 (by simpa using fun e => h.ne.2.2 e.symm)).update (P := Tryz.prog) (T := 81) (K := 3) (E := 9) (d := .int .i64) kvI_key kvI_inj Tryz.underlying81 Tryz.underlying3 i (.string t)
  rw [ktP_put (X := X) (t := t)] at h2
  rw [ktT_put (q := q) (X := X)] at k2
  have ho := (h.own.aside h3 (fun k hk => by rw [List.mem_singleton.1 hk]; exact ⟨h.mem.2.1, h.old.1⟩)).aside k3 (fun k hk => by rw [List.mem_singleton.1 hk]; exact ⟨h.mem.2.2, h.old.2⟩)
  exact ⟨w1, w2, h1, k1, Lib.hid ⟨ho, h.qt, (h.sum.keep h3 (by simpa using fun e => h.ne.1 e.symm)).keep k3 (by simpa using fun e => h.ne.2.1 e.symm), ⟨_, h2.keep k3 (by simpa using h.ne.2.2)⟩, ⟨_, k2⟩, h.mem, h.old, h.ne⟩⟩
/-- Ranging over what is known. -/
structure QrIn (W w : World) (F : List Nat) (x : Nat → Nat) (b p tk bk bt r : Nat) (M : Mi) (K : Knt) (j left : Nat) : Prop where
  lo : QuIn W w (r :: F) x b p tk bk bt M K K j
  rng : ∃ D, RangeK kvI w r bk (ktP K) D left
  nr : r ≠ bk ∧ r ≠ tk ∧ r ≠ bt
  rl : W.heap.size ≤ r
  mem : tk ∈ F ∧ bk ∈ F ∧ bt ∈ F
theorem QrIn.go {r left : Nat} (h : QrIn W w F x b p tk bk bt r M Km j left) (hl : QuIn W w' (r :: F) x b p tk bk bt M' Km Km j') (hm : Minds (r :: F) w w') : QrIn W w' F x b p tk bk bt r M' Km j' left := by
  refine ⟨hl, h.rng.elim fun D hD => ⟨D, ?_⟩, h.nr, h.rl, h.mem⟩
  obtain ⟨L, h1, h2⟩ := hm
  exact hD.keep h1 (fun hx => h2 r hx (by simp)) (fun hx => h2 bk hx (List.mem_cons_of_mem _ h.mem.2.1))
theorem QrIn.calm {r left : Nat} (h : QrIn W w F x b p tk bk bt r M Km j left) (hm : Mods [] w w') : QrIn W w' F x b p tk bk bt r M Km j left := h.go (h.lo.calm hm) (Minds.of hm)
theorem quRange (h : QuIn W w F x b p tk bk bt M Km Km j) :
    ∃ w1 left, (Instr.range 79 (.map (some bk))).run Tryz.prog w = .ok (.pointer (some ⟨w.heap.size, 0, none⟩)) w1 ∧ Hid (QrIn W w1 F x b p tk bk bt w.heap.size M Km j left) := by
  obtain ⟨n, hn⟩ := h.map
  obtain ⟨w1, h1, h2, h3, h4⟩ := hn.range (P := Tryz.prog) Tryz.underlying79
  have hlt : ∀ g ∈ F, g < w.heap.size := h.own.lt
  have hs := h.calm h3
  have ho : OwnM W (w.heap.size :: F) w1 b p x M := h.own.protect h3 (fun g hg => by
    rcases List.mem_cons.1 hg with rfl | hg
    · exact .inr ⟨Nat.le_refl _, by omega⟩
    · exact .inl hg)
  refine ⟨w1, n, h1, Lib.hid ⟨⟨ho, hs.qt, hs.sum, hs.map, hs.txt, ⟨List.mem_cons_of_mem _ h.mem.1, List.mem_cons_of_mem _ h.mem.2.1, List.mem_cons_of_mem _ h.mem.2.2⟩, h.old, h.ne⟩, ⟨_, h2⟩, ⟨?_, ?_, ?_⟩, h.own.mods.size, h.mem⟩⟩
  · have := hlt bk h.mem.2.1; omega
  · have := hlt tk h.mem.1; omega
  · have := hlt bt h.mem.2.2; omega
theorem QrIn.next {r left : Nat} (h : QrIn W w F x b p tk bk bt r M Km j left) :
    (left = 0 ∧ ∀ ty, (Instr.next (.pointer (some ⟨r, 0, none⟩)) false ty).run Tryz.prog w = .ok (.tuple #[.bool false]) w) ∨
    ∃ (i : Nat) (q : PtrE) (X t : ByteArray) (w1 : World) (left1 : Nat), Km i = some (q, X, t) ∧ (∀ ty, (Instr.next (.pointer (some ⟨r, 0, none⟩)) false ty).run Tryz.prog w = .ok (.tuple #[.bool true, .int .i64 (i : Nat), ptrV q]) w1) ∧
      (Instr.entry (.pointer (some ⟨r, 0, none⟩))).run Tryz.prog w1 = .ok (.tuple #[.int .i64 (i : Nat), ptrV q]) w1 ∧ Hid (QrIn W w1 F x b p tk bk bt r M Km j left1) ∧ left1 < left := by
  obtain ⟨D, hD⟩ := h.rng
  rcases hD.next (P := Tryz.prog) kvI_inj h.nr.1 0 with ⟨h1, _, h2⟩ | ⟨a, v, w1, left1, hv, _, hrun, hent, hR1, hl, hm1, _⟩
  · exact .inl ⟨h1, fun _ => h2⟩
  · unfold ktP at hv
    cases hk : Km a with
    | none => rw [hk] at hv; cases hv
    | some y =>
      obtain ⟨q, X, t⟩ := y
      rw [hk] at hv
      injection hv with hv
      subst hv
      have hlo := h.lo
      have hmem : ∀ k ∈ [r], k ∈ r :: F ∧ W.heap.size ≤ k := fun k hk => by rw [List.mem_singleton.1 hk]; exact ⟨by simp, h.rl⟩
      refine .inr ⟨a, q, X, t, w1, left1, hk, fun _ => hrun, hent, Lib.hid ⟨⟨hlo.own.aside hm1 hmem, hlo.qt, hlo.sum.keep hm1 (by simpa using fun e => h.nr.2.1 e.symm), hlo.map.elim fun n hn => ⟨n, hn.keep hm1 (by simpa using fun e => h.nr.1 e.symm)⟩, hlo.txt.elim fun n hn => ⟨n, hn.keep hm1 (by simpa using fun e => h.nr.2.2 e.symm)⟩, hlo.mem, hlo.old, hlo.ne⟩, ⟨_, hR1⟩, h.nr, h.rl, h.mem⟩, hl⟩
theorem QrIn.done {r left : Nat} (h : QrIn W w F x b p tk bk bt r M Km j left) : QuIn W w F x b p tk bk bt M Km Km j :=
  ⟨h.lo.own.fewer (fun _g hg => List.mem_cons_of_mem _ hg), h.lo.qt, h.lo.sum, h.lo.map, h.lo.txt, h.mem, h.lo.old, h.lo.ne⟩
/-- A new block is minded, too. -/
theorem QuIn.protect {g : Nat} (h : QuIn W w F x b p tk bk bt M Km Kr j) (hm : Mods [] w w') (hg : w.heap.size ≤ g) (hg' : g < w'.heap.size) : QuIn W w' (g :: F) x b p tk bk bt M Km Kr j := by
  have hs := h.calm hm
  exact ⟨h.own.protect hm (fun k hk => by
    rcases List.mem_cons.1 hk with rfl | hk
    · exact .inr ⟨hg, hg'⟩
    · exact .inl hk), hs.qt, hs.sum, hs.map, hs.txt, ⟨List.mem_cons_of_mem _ h.mem.1, List.mem_cons_of_mem _ h.mem.2.1, List.mem_cons_of_mem _ h.mem.2.2⟩, h.old, h.ne⟩
theorem QuIn.less {g : Nat} (h : QuIn W w (g :: F) x b p tk bk bt M Km Kr j) (hF : tk ∈ F ∧ bk ∈ F ∧ bt ∈ F) : QuIn W w F x b p tk bk bt M Km Kr j :=
  ⟨h.own.fewer (fun _k hk => List.mem_cons_of_mem _ hk), h.qt, h.sum, h.map, h.txt, hF, h.old, h.ne⟩
theorem zero_strQ (w : World) : (zeroValue 9).run Tryz.prog w = .ok (.string ⟨#[]⟩) w := by kernel_rfl
theorem quLook (h : QuIn W w F x b p tk bk bt M Km Kr j) {i : Nat} {q : PtrE} {X t : ByteArray} (hk : Km i = some (q, X, t)) :
    (Instr.lookup 81 (.map (some bt)) (.int .i64 (i : Nat)) false).run Tryz.prog w = .ok (.string t) w := by
  obtain ⟨n, hn⟩ := h.txt
  have := hn.lookup (P := Tryz.prog) (T := 81) (K := 3) (E := 9) (d := .int .i64) kvI_key Tryz.underlying81 Tryz.underlying3 (zero_strQ w) i false
  unfold ktT at this
  rw [hk] at this
  exact this
theorem quTable (h : QuIn W w F x b p tk bk bt M Km Kr j) {s : Nat} (hs : s < 2) :
    Calls Tryz.prog 16 #[.pointer (some ⟨p, 0, none⟩), .int .i64 (s : Nat)] w fun e w' => ∃ A c, e = .returned (.agg #[.int .i64 14, .int .i64 6, .slice A 0 c]) ∧ Hid (IsMv w' (.slice A 0 c) []) ∧ Hid (Mods [] w w') := by
  obtain ⟨tb, mb, gp, fx, hI, _⟩ := h.own.ex
  have := rTable_s hI.pair hs
  rw [h.qt.still s hs] at this
  exact this.mono fun e w' ⟨A, c, h1, h2, _, h4⟩ => ⟨A, c, h1, h2, h4⟩
theorem quGen {w : World} {A : Option Addr} {c : Nat} (hm : IsMv w (.slice A 0 c) []) : Calls Tryz.prog 23 #[.agg #[.int .i64 14, .int .i64 6, .slice A 0 c]] w fun e w' => e = .returned (.int .u64 0) ∧ Hid (Mods [] w w') :=
  (show Calls Tryz.prog 23 #[.agg #[.int .i64 14, .int .i64 6, .slice A 0 c]] w _ from tGen_any ⟨14, 6, []⟩ hm (by constructor <;> simp)).mono fun e w' ⟨h1, h2⟩ => ⟨h1, Lib.hid h2⟩
theorem quReps (h : QuIn W w F x b p tk bk bt M Km Kr j) : Calls Tryz.prog 38 #[.pointer (some ⟨b, 0, none⟩)] w fun e w' => e = .returned (.int .i64 0) ∧ w = w' := by
  have := oRepairs h.own
  rw [h.qt.reps] at this
  exact this
theorem quDegr (h : QuIn W w F x b p tk bk bt M Km Kr j) : Calls Tryz.prog 41 #[.pointer (some ⟨b, 0, none⟩)] w fun e w' => e = .returned (.bool false) ∧ w = w' := by
  have := oDegr h.own
  rw [h.qt.gm.gone (by decide), h.qt.gm.gone (by decide)] at this
  exact this
theorem quBad (h : QuIn W w F x b p tk bk bt M Km Kr j) : Calls Tryz.prog 42 #[.pointer (some ⟨b, 0, none⟩)] w fun e w' => e = .returned (.slice none 0 0) ∧ Hid (QuIn W w' F x b p tk bk bt M Km Kr j) := by
  obtain ⟨tb, mb, gp, fx, hI, _⟩ := h.own.ex
  exact (mBad_0 hI h.qt.bl).mono fun e w' ⟨h1, h2⟩ => ⟨h1, Lib.hid (h.calm h2.out)⟩
end
end Go.Proofs.YtnpfhfgegjocoaaGreat
