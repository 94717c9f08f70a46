/- RemapSpares: what its rounds keep. -/
import Derived.Test.YtnpfhfgegjocoaaGreatMG
import Derived.Shelf.SlIter.Collect
import Derived.RangeFuncBox
import Derived.RangeFuncLeaves
import Derived.WalkKit
import Derived.OwnWalkIn
import Derived.TacticsInMore
import Derived.RegionIn
import Derived.LoopNIn
import Derived.LoopIn
import Derived.Test.YtnpfhfgegjocoaaGreatMB
import Derived.Lib.RowBridge
import Derived.Outline
/- slices.Values, slices.Collect, slices.AppendSeq at []int: what they gather (printed by wip/seqint.py). The walks of AppendSeq and Collect follow the kit's worked proof of the same functions at strings. -/
namespace Go.Proofs.YtnpfhfgegjocoaaGreat
open Go.RowKit Go.Maps Go.Sort Go.Shelf

def encJ (b : Nat) : Value := .int .i64 (b : Nat)
theorem info_intJ : (Tryz.prog.info? 3).map (fun i => (i.zero, i.size, i.bytes)) = some (some (.int .i64 0), 1, 8) := by kernel_rfl

/-- The loop over a function in a code: how its variable is set; its body. -/
def rfParts : Code → Option (Code × Code)
  | .rangeFunc _ _ a c => some (a, c)
  | .seq x y => match rfParts x with
    | some r => some r
    | none => rfParts y
  | .block _ c => rfParts c
  | .scope c => rfParts c
  | _ => none
noncomputable def apAssign : Code := ((Tryz.f169.body.bind rfParts).map (·.1)).getD .skip
noncomputable def apBody : Code := ((Tryz.f169.body.bind rfParts).map (·.2)).getD .skip
/-- The loop's record. -/
noncomputable def apRec (fn : FuncId) (sv : Value) (Bs D : Nat) (st : LoopState) (pend : Option Code) : Loop :=
  { state := st, pending := pend, fn, tmps := #[.slice none 0 0, sv, .pointer (some ⟨Bs, 0, none⟩), undef, .slice none 0 0, undef, sv, undef, undef, undef, undef, undef, undef], params := #[7], assign := apAssign, body := apBody, defers := D }

/-- An iterator that gives what S says, whatever the rounds keep, so they leave what was there. -/
def SeqB (F : Fence) (n : Nat) (P : Program) (g : Nat) (lb : Array Value) (S : List Nat → Prop) (N : Nat) (w : World) : Prop :=
  ∀ (l : Nat) (J : List Nat → World → Prop) (W : World), Below w.heap.size w W → (∀ pre W1, J pre W1 → Below w.heap.size w W1) →
    (∀ pre x W1, J pre W1 → pre.length < N → YieldAt F (n - 1) P l #[encJ x] W1 fun e W' => e = .returned (.bool true) ∧ J (pre ++ [x]) W' ∧ KeepsWalks W1 W') →
    J [] W →
    CallsIn F n P g (#[.func (.yield l) #[] #[]] ++ lb) W fun e W' => (∃ v, e = .returned v) ∧ ∃ xs, S xs ∧ J xs W'

/-- BETWEEN TWO ROUNDS: the box holds a slice that owns, in a block of the call's own, what has come so far; IT IS nil JUST AS LONG AS NOTHING HAS COME; nothing that lay before the call has turned. -/
structure ApAt (w0 : World) (fn : FuncId) (sv : Value) (Bs l D : Nat) (ss : List Nat) (W : World) : Prop where
  box : ∃ v, W.heap[Bs]? = some (.cells #[v] 31 (0, 0)) ∧ W.ownsRow w0.heap.size 3 1 v ss.length (ss.map encJ) ∧ (v = .slice none 0 0 ↔ ss = [])
  L : W.heap[l]? = some (.loop (apRec fn sv Bs D .ready none))
  K : W.heap[D]? = some (.deferred (some []))
  below : Below w0.heap.size w0 W

set_option maxRecDepth 100000 in
set_option maxHeartbeats 2000000 in
theorem apYield (F : Fence) (m : Nat) (w0 : World) (fn : FuncId) (hfn : F.fn fn) (sv : Value) (Bs l D : Nat) (hBl : Bs ≠ l) (hDl : D ≠ l) (hDB : D ≠ Bs) (h0B : w0.heap.size ≤ Bs) (h0l : w0.heap.size ≤ l)
    (N : Nat) (hN : N ≤ maxLen) (hNb : N * 8 ≤ 140737488355328) (ss : List Nat) (x : Nat) (W : World) (h : ApAt w0 fn sv Bs l D ss W) (hlen : ss.length < N) :
    YieldAt F m Tryz.prog l #[encJ x] W fun e W' => e = .returned (.bool true) ∧ ApAt w0 fn sv Bs l D (ss ++ [x]) W' ∧ KeepsWalks W W' := by
  obtain ⟨i0, hi, hz0, hz1, hz2⟩ := info_parts info_intJ
  obtain ⟨v, hv, hrow, _⟩ := h.box
  refine ⟨fn, #[.slice none 0 0, sv, .pointer (some ⟨Bs, 0, none⟩), undef, .slice none 0 0, undef, sv, encJ x, undef, undef, undef, undef, undef], apAssign, apBody, by simpa [apRec] using run_yield (P := Tryz.prog) (args := #[encJ x]) h.L rfl, roundIn_of_wpIn hfn ?_⟩
  have hl : l < W.heap.size := (Array.getElem?_eq_some_iff.1 h.L).1
  have hbr := run_beginRound (P := Tryz.prog) h.L rfl
  obtain ⟨W2, hW2⟩ : ∃ W2, W.putObj l (.loop { apRec fn sv Bs D .ready none with state := .busy }) = W2 := ⟨_, rfl⟩
  rw [hW2] at hbr
  have hg2 : W.grownBy W2 (some l) := by rw [← hW2]; exact grownBy_putObj_a _ _ _
  have hk2 : KeepsWalks W W2 := by rw [← hW2]; exact KeepsWalks.putObj _ h.L rfl
  have hv2 : W2.heap[Bs]? = some (.cells #[v] 31 (0, 0)) := by rw [← hW2]; exact (World.putObj_heap_other hBl).trans hv
  have hK2 : W2.heap[D]? = some (.deferred (some [])) := by rw [← hW2]; exact (World.putObj_heap_other hDl).trans h.K
  have hL2 : W2.heap[l]? = some (.loop { apRec fn sv Bs D .ready none with state := .busy }) := by rw [← hW2]; exact World.putObj_heap_same hl
  have hrow2 : W2.ownsRow w0.heap.size 3 1 v ss.length (ss.map encJ) := hrow.kept hg2 (ownsRow_ne_a hrow h.L (fun cur e => by cases e))
  have hb2 : Below w0.heap.size w0 W2 := h.below.grown hg2 h.below.size (fun k e => by cases e; exact h0l)
  obtain ⟨hc2, hf2⟩ := cell_of_box_a hv2
  have hBlt : Bs < W2.heap.size := (Array.getElem?_eq_some_iff.1 hv2).1
  have hl2 : l < W2.heap.size := (Array.getElem?_eq_some_iff.1 hL2).1
  have hDlt : D < W2.heap.size := (Array.getElem?_eq_some_iff.1 hK2).1
  have ne_of : ∀ {j : Nat} {o : Obj}, W2.heap[j]? = some o → (∀ cur, o ≠ .cells cur 3 (0, 0)) → some j ≠ v.ownBlock := fun hj hno => by
    rcases ownsRow_ne_a hrow2 hj hno with e | e
    · rw [e]; simp
    · exact fun e' => e e'.symm
  clear hW2
  conv in apAssign => whnf
  gi_wp2_with gi_round_op_a
  conv in apBody => whnf
  unfold encJ
  gi_wp2_with (first
    | (gi_at_builtin; refine wpListIn_append_own _ rfl _ _ 31 rfl w0.heap.size 3 i0 (.int .i64 0) 1 8 Tryz.underlying31 hi hz0 hz1 hz2 rfl (by decide) _ _ _ rfl (hrow2.alloc _) ⟨W2.heap.size, 0, none⟩ 1 1 [encJ x] rfl rfl (cell_one_new _ _ _) (by simp [Value.oneCell', encJ]) (by omega) (by omega) (by have := hb2.size; simp; omega) ?_; intro v' w3 hown' hg3 hnil3
       have hv3 : w3.heap[Bs]? = some (.cells #[v] 31 (0, 0)) := (hg3.block Bs (by simp; omega) (ne_of hv2 (fun cur e => by cases e))).trans ((Below.heap_alloc _ _ Bs hBlt).trans hv2)
       obtain ⟨hc3, hf3⟩ := cell_of_box_a hv3
       obtain ⟨g', cap', cur', rfl, hbase', hgb', hr1, hr2, hr3, hr4⟩ : ∃ g' cap' cur', v' = .slice (some ⟨g', 0, none⟩) (ss.length + 1) cap' ∧ w0.heap.size ≤ g' ∧ w3.heap[g']? = some (.cells cur' 3 (0, 0)) ∧ ss.length + 1 ≤ cap' ∧ cap' ≤ maxLen ∧ cur'.size = cap' * 1 ∧ cur'.toList.take ((ss.length + 1) * 1) = ss.map encJ ++ [encJ x] := by
         rcases hown'.2 with ⟨_, h0⟩ | h'
         · exact absurd h0 (by omega)
         · exact h'
       go_frame)
    | gi_round_op_a)
  have hg3' : (W2.alloc (.cells #[encJ x] 3)).grownBy w3 v.ownBlock := hg3
  have hL3 : w3.heap[l]? = some (.loop { apRec fn sv Bs D .ready none with state := .busy }) := (hg3'.block l (by simp; omega) (ne_of hL2 (fun cur e => by cases e))).trans ((Below.heap_alloc _ _ l hl2).trans hL2)
  have hK3 : w3.heap[D]? = some (.deferred (some [])) := (hg3'.block D (by simp; omega) (ne_of hK2 (fun cur e => by cases e))).trans ((Below.heap_alloc _ _ D hDlt).trans hK2)
  obtain ⟨w4, hw4⟩ : ∃ w4, w3.setCell ⟨Bs, 0, none⟩ (.slice (some ⟨g', 0, none⟩) (ss.length + 1) cap') = w4 := ⟨_, rfl⟩
  rw [hw4]
  have hg4 : w3.grownBy w4 (some Bs) := by rw [← hw4]; exact grownBy_setCell0_a _ _ _
  have hv4 : w4.heap[Bs]? = some (.cells #[.slice (some ⟨g', 0, none⟩) (ss.length + 1) cap'] 31 (0, 0)) := by rw [← hw4]; exact heap_setCell_box_a _ hv3
  have hL4 : w4.heap[l]? = some (.loop { apRec fn sv Bs D .ready none with state := .busy }) := (hg4.block l (Array.getElem?_eq_some_iff.1 hL3).1 (fun e => hBl (by cases e; rfl))).trans hL3
  have hK4 : w4.heap[D]? = some (.deferred (some [])) := (hg4.block D (Array.getElem?_eq_some_iff.1 hK3).1 (fun e => hDB (by cases e; rfl))).trans hK3
  have hrow4 := hown'.kept hg4 (ownsRow_ne_a hown' hv3 (fun cur e => by cases e))
  have hl4 : l < w4.heap.size := (Array.getElem?_eq_some_iff.1 hL4).1
  have hb3 : Below w0.heap.size w0 w3 := (hb2.alloc hb2.size _).grown hg3' (by have := hb2.size; simp; omega) (fun k e => (hrow2.lt k e).1)
  have hb4 : Below w0.heap.size w0 w4 := hb3.grown hg4 hb3.size (fun k e => by cases e; exact h0B)
  have hk4 : KeepsWalks W w4 := ((hk2.trans (KeepsWalks.alloc _ _)).trans (KeepsWalks.of_grownBy hg3' (ownsRow_not_walk_a (hrow2.alloc _)))).trans (by rw [← hw4]; exact KeepsWalks.setCell _ _ _)
  clear hw4
  refine ⟨_, _, run_endRound none hL4, rfl, ⟨⟨_, (World.putObj_heap_other hBl).trans hv4, ?_, by simp⟩, World.putObj_heap_same hl4, (World.putObj_heap_other hDl).trans hK4, hb4.grown (grownBy_putObj_a _ _ _) hb4.size (fun k e => by cases e; exact h0l)⟩, hk4.trans (KeepsWalks.putObj _ hL4 rfl)⟩
  have := hrow4.kept (grownBy_putObj_a w4 l (.loop { { apRec fn sv Bs D .ready none with state := .busy } with state := if (none : Option Code).isNone then .ready else .done, pending := none })) (ownsRow_ne_a hrow4 hL4 (fun cur e => by cases e))
  simpa using this

set_option maxRecDepth 100000 in
set_option maxHeartbeats 2000000 in
/-- **slices.AppendSeq(nil, seq), AGAINST WHATEVER ITERATOR VALUE THAT 'SeqGives'**: it hands back a slice that owns, in a block of the call's own, JUST WHAT THE ITERATOR GAVE, IN THAT ORDER; nil JUST WHERE IT GAVE NOTHING (as Go: 'slices.Collect' of nothing is nil); nothing that lay before the call has turned. -/
theorem appendSeq_in (F : Fence) (n : Nat) (h11 : F.fn 169) (hro : F.round = none) (hn : 2 ≤ n) (g : Nat) (lb : Array Value) (hFg : F.fn g) (eg : ∀ args w, (callFunc g args).run Tryz.prog w = .ok (.enter g args) w)
    (S : List Nat → Prop) (N : Nat) (hN : N ≤ maxLen) (hNb : N * 8 ≤ 140737488355328) (w : World) (hseq : SeqB F (n - 1) Tryz.prog g lb S N w) :
    CallsIn F n Tryz.prog 169 #[.slice none 0 0, .func (.func g) #[] lb] w fun e w' => ∃ (v : Value) (ss : List Nat), e = .returned v ∧ S ss ∧ w'.ownsRow w.heap.size 3 1 v ss.length (ss.map encJ) ∧ (v = .slice none 0 0 ↔ ss = []) ∧ Below w.heap.size w w' := by
  have h1 : 1 ≤ n := by omega
  refine callsIn_of_wp_marks Tryz.func169 rfl h11 ?_ hro
  simp only [Tryz.ntmps169, List.size_toArray, List.length_cons, List.length_nil, Nat.reduceAdd, Nat.reduceSub, Array.replicate_succ, Array.replicate_zero, List.push_toArray, List.append_toArray, List.nil_append, List.cons_append]
  gi_wp2
  refine wpIn_rangeFunc ?_
  intro fn hfn
  rw [hro]
  obtain ⟨W0, hW0⟩ : ∃ W0, w.alloc (.cells #[.slice none 0 0] 31) = W0 := ⟨_, rfl⟩
  have hs0 : W0.heap.size = w.heap.size + 1 := by rw [← hW0]; simp
  have hv0 : W0.heap[w.heap.size]? = some (.cells #[.slice none 0 0] 31 (0, 0)) := by rw [← hW0]; exact World.alloc_heap_new w _
  have hb0 : Below w.heap.size w W0 := by rw [← hW0]; exact (Below.refl _ w).alloc (Nat.le_refl _) _
  rw [hW0]
  obtain ⟨W1, hW1⟩ : ∃ W1, (W0.alloc (.deferred (some []))).alloc (.loop (apRec fn (.func (.func g) #[] lb) w.heap.size W0.heap.size .ready none)) = W1 := ⟨_, rfl⟩
  have hold : ∀ k, k < W0.heap.size → W1.heap[k]? = W0.heap[k]? := fun k hk => by
    rw [← hW1]; exact (Below.heap_alloc _ _ k (by simp; omega)).trans (Below.heap_alloc _ _ k hk)
  have hb1 : Below w.heap.size w W1 := by rw [← hW1]; exact (hb0.alloc hb0.size _).alloc (by have := hb0.size; simp; omega) _
  have hs1 : W1.heap.size = W0.heap.size + 2 := by rw [← hW1]; simp
  have hM : ApAt w fn (.func (.func g) #[] lb) w.heap.size (W0.heap.size + 1) W0.heap.size [] W1 :=
    ⟨⟨_, (hold w.heap.size (by omega)).trans hv0, ⟨rfl, .inl ⟨rfl, rfl⟩⟩, by simp⟩,
     by rw [← hW1]; have := World.alloc_heap_new (W0.alloc (.deferred (some []))) (.loop (apRec fn (.func (.func g) #[] lb) w.heap.size W0.heap.size .ready none)); rwa [World.size_alloc] at this,
     by rw [← hW1]; exact (Below.heap_alloc _ _ _ (by simp)).trans (World.alloc_heap_new W0 _), hb1⟩
  refine ⟨W0.heap.size + 1, [{ target := .collected W0.heap.size, args := #[] }], W1, { target := .fn (.func g) lb, args := #[.func (.yield (W0.heap.size + 1)) #[] #[]] }, W1, g,
    #[.func (.yield (W0.heap.size + 1)) #[] #[]] ++ lb, W1, ?_, ?_, ?_, ?_, fun _ => h1, ?_⟩
  · rw [← hW1]; exact run_enterLoop_outer _ _ _ _ _
  · simp [resolve, go_sem]
  · intro f' hf'; simp [Target.leads] at hf'; subst hf'; exact hFg
  · simp [invoke, go_sem, eg]
  · refine (hseq (W0.heap.size + 1) (ApAt w fn (.func (.func g) #[] lb) w.heap.size (W0.heap.size + 1) W0.heap.size) W1 hb1 (fun pre x h => h.below)
      (fun pre x W hJ hl => apYield F (n - 1 - 1) w fn hfn _ w.heap.size (W0.heap.size + 1) W0.heap.size (by omega) (by omega) (by omega) (Nat.le_refl _) (by omega) N hN hNb pre x W hJ hl) hM).mono ?_
    rintro e W2 ⟨⟨v0, rfl⟩, ss, hS, h2⟩
    obtain ⟨v, hv, hrow, hnil⟩ := h2.box
    have hend := run_endLoop (P := Tryz.prog) h2.L (by simp [apRec])
    obtain ⟨W3, hW3⟩ : ∃ W3, W2.putObj (W0.heap.size + 1) (.loop { apRec fn (.func (.func g) #[] lb) w.heap.size W0.heap.size .ready none with state := .exhausted }) = W3 := ⟨_, rfl⟩
    rw [hW3] at hend
    have hg3 : W2.grownBy W3 (some (W0.heap.size + 1)) := by rw [← hW3]; exact grownBy_putObj_a _ _ _
    have hv3 : W3.heap[w.heap.size]? = some (.cells #[v] 31 (0, 0)) := by rw [← hW3]; exact (World.putObj_heap_other (by omega)).trans hv
    have hK3 : W3.heap[W0.heap.size]? = some (.deferred (some [])) := by rw [← hW3]; exact (World.putObj_heap_other (by omega)).trans h2.K
    have hrow3 := hrow.kept hg3 (ownsRow_ne_a hrow h2.L (fun cur e => by cases e))
    have hb3 : Below w.heap.size w W3 := h2.below.grown hg3 h2.below.size (fun k e => by cases e; omega)
    obtain ⟨hc3, hf3⟩ := cell_of_box_a hv3
    clear hW3
    refine ⟨none, W3, hend, ?_⟩
    gi_wp2
    rw [← hs0]
    refine ⟨by simp, .inl ⟨_, _, rfl, run_takeDeferred hK3, ?_⟩⟩
    exact ⟨_, results_tmp rfl _ _ _, v, ss, rfl, hS, hrow3.kept (grownBy_putObj_a _ _ _) (ownsRow_ne_a hrow3 hK3 (fun cur e => by cases e)), hnil, hb3.grown (grownBy_putObj_a _ _ _) hb3.size (fun k e => by cases e; omega)⟩

set_option maxHeartbeats 1000000 in
/-- **slices.Collect(seq), AGAINST WHATEVER ITERATOR VALUE.** -/
theorem collect_in (F : Fence) (n : Nat) (h8 : F.fn 129) (h11 : F.fn 169) (hro : F.round = none) (hn : 3 ≤ n) (g : Nat) (lb : Array Value) (hFg : F.fn g) (eg : ∀ args w, (callFunc g args).run Tryz.prog w = .ok (.enter g args) w)
    (S : List Nat → Prop) (N : Nat) (hN : N ≤ maxLen) (hNb : N * 8 ≤ 140737488355328) (w : World) (hseq : SeqB F (n - 1 - 1) Tryz.prog g lb S N w) :
    CallsIn F n Tryz.prog 129 #[.func (.func g) #[] lb] w fun e w' => ∃ (v : Value) (ss : List Nat), e = .returned v ∧ S ss ∧ w'.ownsRow w.heap.size 3 1 v ss.length (ss.map encJ) ∧ (v = .slice none 0 0 ↔ ss = []) ∧ Below w.heap.size w w' := by
  have h1 : 1 ≤ n := by omega
  refine callsIn_of_wp Tryz.func129 rfl h8 ?_ hro
  simp only [Tryz.ntmps129, List.size_toArray, List.length_cons, List.length_nil, Nat.reduceAdd, Nat.reduceSub, Array.replicate_succ, Array.replicate_zero, List.push_toArray, List.append_toArray, List.nil_append, List.cons_append]
  gi_wp2_with (gi_at_call 169; refine (appendSeq_in F (n - 1) h11 hro (by omega) g lb hFg eg S N hN hNb _ hseq).mono ?_; rintro e w' ⟨v, ss, rfl, hS, hrow, hnil, hb⟩)
  go_ret
  exact ⟨v, ss, rfl, hS, hrow, hnil, hb⟩

set_option maxRecDepth 100000 in
set_option maxHeartbeats 2000000 in
/-- slices.Values's iterator gives what the row holds, in its order. -/
theorem values_B (F : Fence) (n : Nat) (h62 : F.fn 131) (hro : F.round = none) (hn : 1 ≤ n) (Bs g cap : Nat) (zs : List Nat) (hlen : zs.length < 1000000) (w : World) (hBs : w.cell? ⟨Bs, 0, none⟩ = some (.slice (some ⟨g, 0, none⟩) zs.length cap))
    (hc : ∀ (j : Nat) x, zs[j]? = some x → w.cell? ⟨g, j, none⟩ = some (encJ x)) (hg : g < w.heap.size) :
    SeqB F n Tryz.prog 131 #[.pointer (some ⟨Bs, 0, none⟩)] (fun xs => xs = zs) zs.length w := by
  intro l J W hW hJ hY h0
  have hBs' := (hW.cell (p := ⟨Bs, 0, none⟩) (World.block_lt_of_cell? w _ hBs)).trans hBs
  have HY := Lib.hid hY
  have HJ := Lib.hid hJ
  have HC := Lib.hid hc
  have H0 := Lib.hid h0
  clear hY hJ hc h0 hBs hW
  generalize hL : zs.length = len at *
  have HL := Lib.hid hL
  clear hL
  refine callsIn_of_wp Tryz.func131 rfl h62 ?_ hro
  simp only [Tryz.ntmps131, List.size_toArray, List.length_cons, List.length_nil, Nat.reduceAdd, Nat.reduceSub, Array.replicate_succ, Array.replicate_zero, List.push_toArray, List.append_toArray, List.nil_append, List.cons_append]
  gi_wp2
  gi_loopw [7] (fun i wr => ∃ k : Nat, k ≤ len ∧ i = .int .i64 k ∧ J (zs.take k) wr)
    (fun i _ => len - (intOf i).toNat)
  case atStart => exact ⟨0, Nat.zero_le _, rfl, H0.out⟩
  case round =>
    obtain ⟨k, hk, rfl, hJs⟩ := hrel
    by_cases hlt : k < len
    · have hkz : k < zs.length := by rw [HL.out]; exact hlt
      obtain ⟨x, hx⟩ : ∃ x, zs[k]? = some x := ⟨_, List.getElem?_eq_getElem hkz⟩
      obtain ⟨fn, tmps, assign, body, hy, hR⟩ := HY.out _ x wr hJs (by simp; omega)
      have hcx : wr.cell? ⟨g, k, none⟩ = some (.int .i64 (x : Nat)) := ((HJ.out _ _ hJs).cell (p := ⟨g, k, none⟩) hg).trans (HC.out k x hx)
      have HJs := Lib.hid hJs
      simp only [encJ] at hy
      clear hJs
      gi_wp2
      refine hR.mono ?_
      rintro e W3 ⟨rfl, hJ3, hk3⟩
      gi_wp2
      go_roundw
      case rel =>
        refine ⟨k + 1, by omega, by simp, ?_⟩
        have : zs.take (k + 1) = zs.take k ++ [x] := by
          rw [List.take_add_one, hx]; rfl
        rw [this]; exact hJ3
      case measure => simp [intOf]; omega
    · obtain rfl : k = len := by omega
      rw [List.take_of_length_le (by rw [HL.out]; exact Nat.le_refl _)] at hJs
      gi_wp2
      go_end0
      exact ⟨⟨_, rfl⟩, zs, rfl, hJs⟩

set_option maxRecDepth 100000 in
set_option maxHeartbeats 1000000 in
theorem values_nil_B (F : Fence) (n : Nat) (h62 : F.fn 131) (hro : F.round = none) (Bs : Nat) (w : World) (hBs : w.cell? ⟨Bs, 0, none⟩ = some (.slice none 0 0)) :
    SeqB F n Tryz.prog 131 #[.pointer (some ⟨Bs, 0, none⟩)] (fun xs => xs = []) 0 w := by
  intro l J W hW hJ hY h0
  have hBs' := (hW.cell (p := ⟨Bs, 0, none⟩) (World.block_lt_of_cell? w _ hBs)).trans hBs
  have H0 := Lib.hid h0
  clear hY hJ h0 hBs hW
  refine callsIn_of_wp Tryz.func131 rfl h62 ?_ hro
  simp only [Tryz.ntmps131, List.size_toArray, List.length_cons, List.length_nil, Nat.reduceAdd, Nat.reduceSub, Array.replicate_succ, Array.replicate_zero, List.push_toArray, List.append_toArray, List.nil_append, List.cons_append]
  gi_wp2
  gi_loopw [7] (fun i wr => i = .int .i64 0 ∧ J [] wr) (fun _ _ => 0)
  case atStart => exact ⟨rfl, H0.out⟩
  case round =>
    obtain ⟨rfl, hJs⟩ := hrel
    gi_wp2
    go_end0
    exact ⟨⟨_, rfl⟩, [], rfl, hJs⟩

set_option maxHeartbeats 400000 in
/-- slices.Values: the slice is boxed; the iterator has the box. -/
theorem values_any (s : Option Addr) (n c : Nat) (w : World) :
    Calls Tryz.prog 78 #[.slice s n c] w fun e w' => e = .returned (.func (.func 131) #[] #[.pointer (some ⟨w.heap.size, 0, none⟩)]) ∧ w' = w.alloc (.cells #[.slice s n c] 31) := by
  go_enter Tryz.func78, Tryz.ntmps78
  go_wp2
  go_ret
  exact ⟨rfl, rfl⟩

end Go.Proofs.YtnpfhfgegjocoaaGreat
/- slices.Sorted of a table's row; a table's Moved. -/
namespace Go.Proofs.YtnpfhfgegjocoaaGreat
open Go.RowKit Go.Maps Go.Shelf

/-- slices.Collect of the iterator over a row. -/
theorem collect_mv {w : World} {A : Option Addr} {c : Nat} {l : List Nat} (h : IsMv w (.slice A l.length c) l) (hsm : l.length < 1000000) {Bs : Nat} (hBs : w.cell? ⟨Bs, 0, none⟩ = some (.slice A l.length c)) :
    Calls Tryz.prog 129 #[.func (.func 131) #[] #[.pointer (some ⟨Bs, 0, none⟩)]] w fun e w' => ∃ u, e = .returned u ∧ w'.ownsRow w.heap.size 3 1 u l.length (l.map encJ) ∧ (u = .slice none 0 0 ↔ l = []) ∧ Below w.heap.size w w' := by
  have hN : l.length ≤ maxLen := by unfold maxLen; omega
  have hseq : SeqB Fence.wide (3 - 1 - 1) Tryz.prog 131 #[.pointer (some ⟨Bs, 0, none⟩)] (fun xs => xs = l) l.length w := by
    obtain ⟨A', cap, e, hc⟩ := mv_shape h
    injection e with e1 e2 e3
    subst e1
    subst e3
    cases l with
    | nil =>
      rcases h.2 with ⟨e, _⟩ | ⟨g, cap, cur, e, h1⟩
      · rw [e] at hBs
        exact values_nil_B Fence.wide _ trivial rfl Bs w hBs
      · injection e with e1 e2 e3
        subst e1
        exact values_B Fence.wide (3 - 1 - 1) trivial rfl (by omega) Bs g _ [] (by simp) w hBs (fun j x hx => by simp at hx) (lt_of_block h1.2.1)
    | cons x l =>
      obtain ⟨g, e, h0⟩ := hc 0 x rfl
      subst e
      refine values_B Fence.wide (3 - 1 - 1) trivial rfl (by omega) Bs g _ (x :: l) hsm w hBs (fun j y hy => ?_) (World.block_lt_of_cell? w _ h0)
      obtain ⟨g', e', hy'⟩ := hc j y hy
      injection e' with e'
      injection e' with e'
      subst e'
      exact hy'
  refine (callsIn_wide.1 (collect_in Fence.wide 3 trivial trivial rfl (by omega) 131 _ trivial (enters_of Tryz.func131 (by kernel_rfl) rfl) _ l.length hN (by omega) w hseq)).mono ?_
  rintro e w' ⟨u, ss, rfl, rfl, hrow, hnil, hb⟩
  exact ⟨u, rfl, hrow, hnil, hb⟩
def intsOf (l : List Nat) : List Int := l.map fun x : Nat => (x : Int)
theorem intsOf_len (l : List Nat) : (intsOf l).length = l.length := by unfold intsOf; rw [List.length_map]
def sortedI (l : List Nat) : List Int := (intsOf l).mergeSort fun x y => decide (x ≤ y)
theorem sortedI_len (l : List Nat) : (sortedI l).length = l.length := by unfold sortedI; rw [List.length_mergeSort, intsOf_len]
theorem putRow_mods {α : Type} [Inhabited α] (enc : α → Value) (w : World) (g n : Nat) (d : Array α) (os : Array Obj) : Mods [g] w (Sort.grow (Sort.putRow enc (Sort.ahead w n) g 0 d) os) := by
  refine ⟨rfl, rfl, rfl, by simp [Sort.grow, Sort.putRow, Sort.mapBlock, Sort.ahead], fun k hk hn => ?_⟩
  have hne : g ≠ k := fun e => hn (by simp [e])
  rw [Sort.heap_grow_old _ _ (by simpa [Sort.putRow, Sort.mapBlock, Sort.ahead] using hk)]
  simp [Sort.putRow, Sort.mapBlock, Sort.ahead, Array.getElem?_modify, hne]
theorem holds_mv {w : World} {g cap base : Nat} {l : List Nat} (h : w.ownsRow base 3 1 (.slice (some ⟨g, 0, none⟩) l.length cap) l.length (l.map encJ)) : Sort.Holds (Value.int .i64) w g 0 (intsOf l).toArray ∧ g < w.heap.size ∧ l.length ≤ cap ∧ base ≤ g := by
  rcases h.2 with ⟨e, _⟩ | ⟨g', cap', cur, e, hb, hbl, hcap, hcm, hsz, htk⟩
  · cases e
  · injection e with e1 e2 e3
    injection e1 with e1
    injection e1 with e1
    subst e1
    subst e3
    refine ⟨fun j hj => ?_, lt_of_block hbl, hcap, hb⟩
    have hj' : j < l.length := by rw [List.size_toArray, intsOf_len] at hj; exact hj
    rw [Nat.zero_add]
    have hB : Blk w g 3 cur.toList := by unfold Blk; rw [hbl]
    refine ⟨hB.cell ?_, hB.free j⟩
    have h1 : (cur.toList.take (l.length * 1))[j]? = some (encJ l[j]) := by rw [htk, List.getElem?_map, List.getElem?_eq_getElem hj']; rfl
    rw [List.getElem?_take] at h1
    split at h1
    · rw [h1]
      unfold encJ
      congr 2
      simp [intsOf, hj']
    · cases h1
set_option maxRecDepth 100000 in
set_option maxHeartbeats 800000 in
theorem sortedI_any {w : World} {A : Option Addr} {c : Nat} {l : List Nat} (h : IsMv w (.slice A l.length c) l) (hsm : l.length < 1000000) {Bs : Nat} (hBs : w.cell? ⟨Bs, 0, none⟩ = some (.slice A l.length c)) :
    Calls Tryz.prog 77 #[.func (.func 131) #[] #[.pointer (some ⟨Bs, 0, none⟩)]] w fun e w' => (l = [] ∧ e = .returned (.slice none 0 0) ∧ Mods [] w w') ∨ ∃ g cap, e = .returned (.slice (some ⟨g, 0, none⟩) l.length cap) ∧ Sort.Holds (Value.int .i64) w' g 0 (sortedI l).toArray ∧ l.length ≤ cap ∧ w.heap.size ≤ g ∧ Mods [] w w' := by
  have cCol := Lib.hid (collect_mv h hsm hBs)
  clear h hBs
  go_enter Tryz.func77, Tryz.ntmps77
  go_wp2_with fail
  refine cCol.out.mono ?_
  rintro e w1 ⟨u, rfl, hrow, hnil, hb⟩
  have hm1 := Mods.of_below hb []
  by_cases hl : l = []
  · rw [hnil.2 hl]
    have cS := Lib.hid (fun w => Tryz.slices_Sort_int_none none 0 w)
    clear hrow hnil hb
    go_wp2_with (go_at_call 130; refine (cS.out _).mono ?_; rintro e w2 ⟨rfl, rfl⟩)
    go_ret
    exact .inl ⟨hl, rfl, hm1⟩
  · obtain ⟨g, cap, hu⟩ : ∃ g cap, u = .slice (some ⟨g, 0, none⟩) l.length cap := by
      rcases hrow.2 with ⟨e, _⟩ | ⟨g', cap', cur, e, _⟩
      · exact absurd (hnil.1 e) hl
      · exact ⟨g', cap', e⟩
    subst hu
    obtain ⟨hH, hg, hcap, hbase⟩ := holds_mv hrow
    have cS := Lib.hid (Tryz.slices_Sort_int g 0 cap (intsOf l) w1 hH hg (by rw [intsOf_len]; omega))
    rw [intsOf_len] at cS
    have HH := Lib.hid hH
    have HM := Lib.hid hm1
    clear hrow hnil hb hH hm1
    go_wp2_with fail
    refine cS.out.mono ?_
    rintro e w2 ⟨rfl, n, os, hw2⟩
    have hm2 : Mods [g] w1 w2 := by rw [hw2]; exact putRow_mods _ _ _ _ _ _
    have h9 : Sort.Holds (Value.int .i64) w2 g 0 (sortedI l).toArray := by
      have h8 := Sort.holds_putRow (Value.int .i64) (Sort.ahead w1 n) g 0 (intsOf l).toArray (sortedI l).toArray (Sort.holds_ahead _ _ n _ _ _ HH.out) (by rw [List.size_toArray, List.size_toArray, sortedI_len, intsOf_len])
      rw [hw2]
      exact Sort.holds_grow _ _ os _ _ _ (by simpa [Sort.putRow, Sort.mapBlock, Sort.ahead] using hg) h8
    have H9 := Lib.hid (And.intro h9 hm2)
    clear h9 hm2 hw2
    go_wp2_with fail
    go_ret
    exact .inr ⟨g, cap, rfl, H9.out.1, hcap, hbase, HM.out.trans H9.out.2 (fun k hk => .inr (by rw [List.mem_singleton.1 hk]; exact hbase))⟩
/-- How many blocks a row has, each once. -/
def distinct (l : List Nat) : Nat := (Lib.compact (sortedI l)).length
theorem distinct_nil : distinct [] = 0 := by
  have e : sortedI [] = [] := List.eq_nil_of_length_eq_zero (by rw [sortedI_len]; rfl)
  unfold distinct
  rw [e]
  rfl
set_option maxRecDepth 100000 in
set_option maxHeartbeats 800000 in
theorem oMoved {w : World} {v : Value} {T : Tab} (h : Hid (TabAt w v T)) (hsm : T.moved.length < 1000000) : Calls Tryz.prog 24 #[v] w fun e w' => ∃ A c, e = .returned (.slice A (distinct T.moved) c) ∧ Hid (Mods [] w w') := by
  obtain ⟨mv, rfl, hmv, _⟩ := h.out
  obtain ⟨A, c, e0, _⟩ := mv_shape hmv
  subst e0
  have HMV := Lib.hid hmv
  unfold tabV
  clear h hmv
  go_enter Tryz.func24, Tryz.ntmps24
  go_wp2_with fail
  obtain ⟨w1, hw1⟩ : ∃ w1, w.alloc (.cells #[.int .i64 (T.blocks : Nat), .int .i64 (T.spares : Nat), .slice A T.moved.length c] 33) = w1 := ⟨_, rfl⟩
  have hm1 : Mods [] w w1 := by rw [← hw1]; exact (Mods.refl _ _).alloc _
  rw [hw1]
  refine (values_any A T.moved.length c w1).mono ?_
  rintro e w2 ⟨rfl, hw2⟩
  have hm2 : Mods [] w1 w2 := by rw [hw2]; exact (Mods.refl _ _).alloc _
  have hb2 : Blk w2 w1.heap.size 31 [.slice A T.moved.length c] := by rw [hw2]; exact Blk.new w1 31 _
  have cSo := Lib.hid (sortedI_any (w := w2) (((HMV.out.keep hm1 (by simp)).keep hm2 (by simp))) hsm (hb2.cell (i := 0) rfl))
  have HM := Lib.hid (hm1.trans hm2 (by simp))
  clear hw1 hw2 hm1 hm2 hb2
  go_wp2_with fail
  refine cSo.out.mono ?_
  rintro e w3 (⟨hl, rfl, hm3⟩ | ⟨g, cap, rfl, hH, hcap, hg, hm3⟩)
  · have cC := Lib.hid (fun w => Tryz.slices_Compact_int_empty none 0 w)
    have HM3 := Lib.hid hm3
    have HL := Lib.hid hl
    clear hm3 hl
    go_wp2_with (go_at_call 79; refine (cC.out _).mono ?_; rintro e w4 ⟨rfl, rfl⟩)
    go_ret
    refine ⟨none, 0, ?_, HM.out.trans HM3.out (by simp)⟩
    rw [HL.out, distinct_nil]
    rfl
  · have cC := Lib.hid (Tryz.slices_Compact_int g 0 cap (sortedI T.moved) w3 hH (by rw [sortedI_len]; omega) (by rw [sortedI_len]; exact hcap))
    rw [sortedI_len] at cC
    have HM3 := Lib.hid hm3
    clear hm3 hH
    go_wp2_with fail
    refine cC.out.mono ?_
    rintro e w4 ⟨rfl, q, hw4⟩
    have hm4 : Mods [g] w3 w4 := by
      rw [hw4]
      have h1 := putRow_mods (Value.int .i64) w3 g q (Lib.compact (sortedI T.moved) ++ List.replicate (T.moved.length - (Lib.compact (sortedI T.moved)).length) 0).toArray #[]
      rw [Sort.grow_empty] at h1
      exact h1
    have HM4 := Lib.hid hm4
    have hgw : w.heap.size ≤ g := Nat.le_trans HM.out.size hg
    clear hm4 hw4
    go_wp2_with fail
    go_ret
    exact ⟨some ⟨g, 0, none⟩, cap, rfl, (HM.out.trans HM3.out (by simp)).trans HM4.out (fun k hk => .inr (by rw [List.mem_singleton.1 hk]; exact hgw))⟩
/-- .. and so many of the numbers there are in it. -/
theorem compact_spec (zs : List Int) (hs : ∀ i j, i < j → j < zs.length → zs.toArray[i]! ≤ zs.toArray[j]!) : ∀ m, m ≤ zs.length →
    (Lib.compactUpTo zs.toArray m).Pairwise (· < ·) ∧ (∀ x, x ∈ Lib.compactUpTo zs.toArray m ↔ ∃ j, j < m ∧ zs.toArray[j]! = x)
  | 0, _ => by simp [Lib.compactUpTo]
  | m + 1, hm => by
    obtain ⟨h1, h2⟩ := compact_spec zs hs m (by omega)
    rw [Lib.compactUpTo_succ]
    by_cases hk : Lib.keeps zs.toArray m = true
    · rw [if_pos hk]
      unfold Lib.keeps at hk
      simp only [decide_eq_true_eq] at hk
      refine ⟨List.pairwise_append.2 ⟨h1, List.pairwise_singleton _ _, fun a ha b hb => ?_⟩, fun x => ?_⟩
      · rw [List.mem_singleton.1 hb]
        obtain ⟨j, hj, rfl⟩ := (h2 a).1 ha
        have h0 : m ≠ 0 := by omega
        have hne := hk.resolve_left h0
        have a1 : zs.toArray[j]! ≤ zs.toArray[m - 1]! := by
          by_cases e : j = m - 1
          · rw [e]; exact Int.le_refl _
          · exact hs j (m - 1) (by omega) (by omega)
        have a2 := hs (m - 1) m (by omega) (by omega)
        omega
      · rw [List.mem_append, h2, List.mem_singleton]
        constructor
        · rintro (⟨j, hj, rfl⟩ | rfl)
          · exact ⟨j, by omega, rfl⟩
          · exact ⟨m, by omega, rfl⟩
        · rintro ⟨j, hj, rfl⟩
          by_cases e : j = m
          · rw [e]; exact .inr rfl
          · exact .inl ⟨j, by omega, rfl⟩
    · rw [if_neg hk, List.append_nil]
      unfold Lib.keeps at hk
      simp only [decide_eq_true_eq, not_or, ne_eq, Decidable.not_not] at hk
      refine ⟨h1, fun x => ?_⟩
      rw [h2]
      constructor
      · rintro ⟨j, hj, rfl⟩; exact ⟨j, by omega, rfl⟩
      · rintro ⟨j, hj, rfl⟩
        by_cases e : j = m
        · rw [e, hk.2]; exact ⟨m - 1, by omega, rfl⟩
        · exact ⟨j, by omega, rfl⟩
theorem distinct_count {l : List Nat} {N : Nat} (hl : ∀ x ∈ l, x < N) : distinct l = ((List.range N).filter fun b => decide (b ∈ l)).length := by
  have hperm : (sortedI l).Perm (intsOf l) := List.mergeSort_perm _ _
  have hsort : (sortedI l).Pairwise (fun x y => decide (x ≤ y) = true) := List.pairwise_mergeSort (fun a b c h1 h2 => by simp at *; omega) (fun a b => by simp; omega) _
  have hs : ∀ i j, i < j → j < (sortedI l).length → (sortedI l).toArray[i]! ≤ (sortedI l).toArray[j]! := by
    intro i j hij hj
    have := (List.pairwise_iff_getElem.1 hsort) i j (by omega) hj hij
    simp only [decide_eq_true_eq] at this
    rw [getElem!_pos (sortedI l).toArray i (by rw [List.size_toArray]; omega), getElem!_pos (sortedI l).toArray j (by rw [List.size_toArray]; exact hj)]
    simpa using this
  obtain ⟨h1, h2⟩ := compact_spec (sortedI l) hs (sortedI l).length (Nat.le_refl _)
  have hn1 : (Lib.compact (sortedI l)).Nodup := h1.imp (fun h => by omega)
  have hn2 : (((List.range N).filter fun b => decide (b ∈ l)).map fun b : Nat => (b : Int)).Nodup := by
    have hr : ((List.range N).filter fun b => decide (b ∈ l)).Nodup := List.nodup_range.sublist List.filter_sublist
    rw [List.nodup_iff_pairwise_ne] at hr ⊢
    rw [List.pairwise_map]
    exact hr.imp (fun hne e => hne (by omega))
  have hp : (Lib.compact (sortedI l)).Perm (((List.range N).filter fun b => decide (b ∈ l)).map fun b : Nat => (b : Int)) := by
    rw [List.perm_ext_iff_of_nodup hn1 hn2]
    intro u
    have hu : u ∈ Lib.compact (sortedI l) ↔ u ∈ sortedI l := by
      unfold Lib.compact
      rw [h2]
      constructor
      · rintro ⟨j, hj, rfl⟩
        rw [getElem!_pos (sortedI l).toArray j (by rw [List.size_toArray]; exact hj)]
        simp
      · intro hu
        obtain ⟨j, hj, e⟩ := List.getElem_of_mem hu
        exact ⟨j, hj, by rw [getElem!_pos (sortedI l).toArray j (by rw [List.size_toArray]; exact hj)]; simpa using e⟩
    rw [hu, hperm.mem_iff]
    unfold intsOf
    rw [List.mem_map, List.mem_map]
    constructor
    · rintro ⟨x, hx, rfl⟩
      exact ⟨x, by rw [List.mem_filter, List.mem_range]; exact ⟨hl x hx, by simpa using hx⟩, rfl⟩
    · rintro ⟨x, hx, rfl⟩
      rw [List.mem_filter] at hx
      exact ⟨x, by simpa using hx.2, rfl⟩
  have := hp.length_eq
  rw [List.length_map] at this
  exact this
end Go.Proofs.YtnpfhfgegjocoaaGreat
/- How many entries a map from numbers to true has. No program is named here. -/
namespace Go.Proofs.YtnpfhfgegjocoaaGreat
open Go.RowKit

/-- The numbers of a set, as a map from them to true. -/
def SF (g : Nat → Bool) (a : Int) : Option Value := if 0 ≤ a ∧ g a.toNat = true then some (.bool true) else none
/-- int keys. -/
def kvJ (a : Int) : Value := .int .i64 a
theorem kvJ_key (a : Int) : MapKept.IsKey (.int .i64) (kvJ a) := rfl
theorem kvJ_inj (a c : Int) (h : kvJ a = kvJ c) : a = c := by injection h

theorem SF_some {g : Nat → Bool} {x : Int} {v : Value} : SF g x = some v ↔ 0 ≤ x ∧ g x.toNat = true ∧ v = .bool true := by
  unfold SF
  by_cases h : 0 ≤ x ∧ g x.toNat = true
  · rw [if_pos h]
    constructor
    · intro e; injection e with e; exact ⟨h.1, h.2, e.symm⟩
    · intro e; rw [e.2.2]
  · rw [if_neg h]
    constructor
    · intro e; cases e
    · intro e; exact absurd ⟨e.1, e.2.1⟩ h

/-- How many entries a map of numbers below N has. -/
theorem MapK.count {w : World} {b n N : Nat} {g : Nat → Bool} (h : MapK kvJ w b (SF g) n) (hg : ∀ a, N ≤ a → g a = false) : n = ((List.range N).filter g).length := by
  obtain ⟨es, clock, h1, h2, h3, h4, h5⟩ := h
  have hn2 : (((List.range N).filter g).map (fun k => kvJ (k : Nat))).Nodup := by
    have hr : ((List.range N).filter g).Nodup := List.nodup_range.sublist List.filter_sublist
    rw [List.nodup_iff_pairwise_ne] at hr ⊢
    rw [List.pairwise_map]
    exact hr.imp (fun hne e => hne (by have := kvJ_inj _ _ e; omega))
  have hp : (es.toList.map (·.key)).Perm (((List.range N).filter g).map (fun k => kvJ (k : Nat))) := by
    rw [List.perm_ext_iff_of_nodup h2.2.2 hn2]
    intro u
    rw [List.mem_map, List.mem_map]
    constructor
    · rintro ⟨x, hx, rfl⟩
      obtain ⟨a, ha⟩ := h3 x hx
      obtain ⟨ha0, hga, _⟩ := SF_some.1 ((h4 a x.val).2 ⟨x, hx, ha, rfl⟩)
      refine ⟨a.toNat, ?_, ?_⟩
      · rw [List.mem_filter, List.mem_range]
        refine ⟨?_, hga⟩
        apply Classical.byContradiction
        intro hn
        rw [hg _ (by omega)] at hga
        cases hga
      · rw [ha]; congr 1; omega
    · rintro ⟨k, hk, rfl⟩
      rw [List.mem_filter] at hk
      obtain ⟨x, hx, hxk, _⟩ := (h4 (k : Int) (.bool true)).1 (SF_some.2 ⟨by omega, by rw [Int.toNat_natCast]; exact hk.2, rfl⟩)
      exact ⟨x, hx, hxk⟩
  have := hp.length_eq
  simp at this
  omega
theorem SF_put (l : List Nat) (i : Nat) : putF (SF fun a => decide (a ∈ l)) (i : Int) (.bool true) = SF fun a => decide (a ∈ l ++ [i]) := by
  funext a
  unfold putF SF
  by_cases e : a = (i : Int)
  · subst e
    rw [if_pos rfl, if_pos ⟨by omega, by simp⟩]
  · rw [if_neg e]
    by_cases h0 : 0 ≤ a
    · have hne : a.toNat ≠ i := by omega
      simp [h0, hne]
    · rw [if_neg (fun h => h0 h.1), if_neg (fun h => h0 h.1)]
theorem SF_nil : (fun _ => none) = SF fun a => decide (a ∈ ([] : List Nat)) := by
  funext a
  unfold SF
  simp
end Go.Proofs.YtnpfhfgegjocoaaGreat
namespace Go.Proofs.YtnpfhfgegjocoaaGreat
open Go.RowKit

/-- Write at the laws' pair, of a block whose sector isn't bad. -/
theorem gWriteFine {W : World} {b : Nat} {gp : List Nat} {x : Nat → Nat} {fx : Nat → List Nat} {P : Pr} (hp : IsPair W b gp x fx P) (h : Gd P) {s i : Nat} (hs : s < 2) (hi : i < 12) (hc : Few P 900000) {img : ByteArray} (hx : img.size = 128) (hn : (P.dev s).bad.getD (((P.tab s).at_ (i : Int)).1 + 4) false = false) :
    Calls Tryz.prog 20 #[.pointer (some ⟨b, 0, none⟩), .int .i64 (s : Nat), .int .i64 (i : Nat), .string img] W fun e w' => ∃ P' gp' fx', e = .returned (.int .i64 0) ∧ Hid (PairTo W w' b gp gp' x fx fx' P') ∧ Hid (Gd P') := by
  have hib : i < (P.tab s).blocks := by rw [h.blocks hs]; exact hi
  obtain ⟨P1, e1, _, _, _, _, _⟩ := write_good h.pi hs hib (x := img) (by rw [hx, h.size]) hn 4
  refine (gWrite hp h hs hi hc hx).mono fun e w' ⟨c, P', gp', fx', m, h1, h2, h3, _, _, _, _, h8⟩ => ?_
  have h9 := h8.out.symm.trans e1
  injection h9 with e2 e3
  subst e2
  exact ⟨P', gp', fx', h1, h2, h3⟩
structure SpIn (W w : World) (x : Nat → Nat) (s bm b : Nat) (fx : Nat → List Nat) (gp : List Nat) (P : Pr) (l : List Nat) (j : Nat) : Prop where
  own : Own W w x fx b gp P
  few : Few P j
  oth : P.tab (1 - s) = ⟨12, 4, []⟩
  obad : ∀ q, 4 ≤ q → (P.dev (1 - s)).bad.getD q false = false
  kbad : ∀ q, 16 + (P.tab s).moved.length ≤ q → (P.dev s).bad.getD q false = false
  map : ∃ n, MapK kvJ w bm (SF fun a => decide (a ∈ l)) n
  offF : ∀ k, k < 2 → bm ∉ fx k
  offG : bm ∉ gp
  bml : W.heap.size ≤ bm
section
variable {W w w' : World} {x : Nat → Nat} {s bm b j j' : Nat} {fx fx' : Nat → List Nat} {gp gp' : List Nat} {P P' : Pr} {l : List Nat}
theorem SpIn.still (h : SpIn W w x s bm b fx gp P l j) (hm : Mods [] w w') : SpIn W w' x s bm b fx gp P l j :=
  ⟨h.own.still hm, h.few, h.oth, h.obad, h.kbad, h.map.elim fun n hn => ⟨n, hn.keep hm (by simp)⟩, h.offF, h.offG, h.bml⟩
theorem SpIn.off (h : SpIn W w x s bm b fx gp P l j) : bm ∉ b :: (fx 0 ++ fx 1) := by
  intro hx
  rcases List.mem_cons.1 hx with e | hx
  · exact h.offG (by rw [e]; exact h.own.pair.at_b)
  · rcases List.mem_append.1 hx with hx | hx
    · exact h.offF 0 (by decide) hx
    · exact h.offF 1 (by decide) hx
theorem SpIn.lt (h : SpIn W w x s bm b fx gp P l j) : bm < w.heap.size := h.map.elim fun _ hn => hn.lt
theorem SpIn.to (h : SpIn W w x s bm b fx gp P l j) (g : PairTo w w' b gp gp' x fx fx' P') (hg : Gd P') (hf : Few P' j') (ho : P'.tab (1 - s) = ⟨12, 4, []⟩) (hob : ∀ q, 4 ≤ q → (P'.dev (1 - s)).bad.getD q false = false) (hkb : ∀ q, 16 + (P'.tab s).moved.length ≤ q → (P'.dev s).bad.getD q false = false) : SpIn W w' x s bm b fx' gp' P' l j' := by
  have hlt := h.lt
  refine ⟨h.own.to g hg, hf, ho, hob, hkb, h.map.elim fun n hn => ⟨n, hn.keep g.mods h.off⟩, fun k hk hx => ?_, fun hx => ?_, h.bml⟩
  · rcases g.newF k hk _ hx with h1 | h1
    · exact h.offF k hk h1
    · omega
  · rcases g.newG _ hx with h1 | h1
    · exact h.offG h1
    · omega
theorem spStick (h : SpIn W w x s bm b fx gp P l j) (hs : s < 2) (hj : j ≤ 900000) {i : Nat} (hi : i < 12) :
    Calls Tryz.prog 18 #[.pointer (some ⟨x s, 0, none⟩), .int .i64 ((((P.tab s).at_ (i : Int)).1 + 4 : Nat) : Int)] w fun e w' => ∃ P', e = .returned (.tuple #[]) ∧ Hid (SpIn W w' x s bm b fx gp P' l j) ∧ Hid (P'.tab = P.tab) ∧ Hid ((P'.dev s).bad.getD (((P.tab s).at_ (i : Int)).1 + 4) false = true) := by
  have hat := Tab.at_lt (h.own.gd.tok hs) (i := i) (by rw [h.own.gd.blocks hs]; exact hi)
  have hlt16 : ((P.tab s).at_ (i : Int)).1 + 4 < 16 + (P.tab s).moved.length := by
    rw [Tab.at_in (by rw [h.own.gd.blocks hs]; exact hi), h.own.gd.blocks hs]
    simp only
    cases hk : Tab.spareOf (P.tab s).moved i with
    | none => simp only; omega
    | some k => have := (Tab.spareOf_some hk).1; simp only; omega
  refine (gStick h.own.pair h.own.gd hs (by omega) (h.own.gd.at_lt hs hi) (h.few.mono hj)).mono fun e w' ⟨P', h1, h2, h3, h4, h5, h6, h7⟩ => ⟨P', h1, ?_, h4, h6⟩
  refine h.to h2.out h3.out (fun d hd => Nat.le_trans (h7.out d hd) (h.few d hd)) (by rw [h4.out]; exact h.oth) (fun q hq => ?_) (fun q hq => ?_)
  · rw [(h5.out.same (1 - s) (by omega)).bad q (by omega)]; exact h.obad q hq
  · rw [h4.out] at hq
    rw [(h5.out.same s hs).bad q (by omega)]; exact h.kbad q hq
theorem spWrite (h : SpIn W w x s bm b fx gp P l j) (hs : s < 2) (hj : j ≤ 900000) {i : Nat} (hi : i < 12) {img : ByteArray} (hx : img.size = 128) (hb : (P.dev s).bad.getD (((P.tab s).at_ (i : Int)).1 + 4) false = true) {L : Nat} (hL : (P.tab s).spares - (P.tab s).moved.length = L) :
    Calls Tryz.prog 20 #[.pointer (some ⟨b, 0, none⟩), .int .i64 (s : Nat), .int .i64 (i : Nat), .string img] w fun e w' => ∃ (c : Nat) (fx' : Nat → List Nat) (gp' : List Nat) (P' : Pr), e = .returned (.int .i64 (c : Nat)) ∧
      Hid (SpIn W w' x s bm b fx' gp' P' l (j + 1)) ∧ Hid (c = 0 ∧ 0 < L ∧ (P'.tab s).moved = (P.tab s).moved ++ [i] ∧ P'.read s (i : Int) = (img, 0) ∨ c = 9 ∧ L = 0 ∧ (P'.tab s).moved = (P.tab s).moved) := by
  have hib : i < (P.tab s).blocks := by rw [h.own.gd.blocks hs]; exact hi
  have hsp := h.own.gd.spares hs
  refine (gWrite h.own.pair h.own.gd hs hi (h.few.mono hj) hx).mono fun e w' ⟨c, P', gp', fx', m, h1, h2, h3, h4, h5, h6, h7, h8⟩ => ⟨c, fx', gp', P', h1, ?_, ?_⟩
  all_goals have hts : P'.tab s = (P.tab s).moves m i := by rw [h4.out]; simp
  all_goals have hml : (P'.tab s).moved.length = (P.tab s).moved.length + m := by rw [hts]; unfold Tab.moves; simp
  all_goals have hlen := h3.out.len hs
  · refine h.to h2.out h3.out (fun d hd => Nat.le_trans (h7.out d hd) (Nat.add_le_add_right (h.few d hd) 1)) (by rw [h4.out]; simp; rw [if_neg (by omega)]; exact h.oth) (fun q hq => ?_) (fun q hq => ?_)
    · rw [(h5.out.same (1 - s) (by omega)).bad q ⟨hq, by omega⟩]; exact h.obad q hq
    · have hlt : ((P'.tab s).at_ (i : Int)).1 + 4 < 16 + (P'.tab s).moved.length := by
        rw [Tab.at_in (by rw [h3.out.blocks hs]; exact hi), h3.out.blocks hs]
        simp only
        cases hk : Tab.spareOf (P'.tab s).moved i with
        | none => simp only; omega
        | some k => have := (Tab.spareOf_some hk).1; simp only; omega
      rw [(h5.out.same s hs).bad q ⟨by omega, by omega⟩]
      exact h.kbad q (by omega)
  · by_cases hm : (P.tab s).moved.length < 4
    · obtain ⟨P1, e1, t1, r1⟩ := pr_write_moved h.own.gd hs hi hx hb hm 3 (h.kbad _ (by omega))
      have h9 := h8.out.symm.trans e1
      injection h9 with e2 e3
      subst e2
      subst e3
      exact .inl ⟨rfl, by omega, by rw [t1]; simp, r1⟩
    · rcases h6.out with ⟨e1, m1⟩ | ⟨e1, m1, _⟩
      · have e0 := write_bad h.own.gd.pi hs hib (x := img) (by rw [hx, h.own.gd.size]) hb 4
        rw [h8.out] at e0
        have hmv := Tab.mv_full hib (by rw [hsp]; exact hm)
        have e9 : P.move s (i : Int) = (9, P) := by unfold Pr.move; rw [hmv]; simp
        rw [e9] at e0
        simp at e0
        omega
      · exact .inr ⟨e1, by omega, by
          have hm0 : m = 0 := by omega
          rw [hts, hm0]
          unfold Tab.moves
          simp⟩
theorem spRead (h : SpIn W w x s bm b fx gp P l j) (hs : s < 2) (hj : j ≤ 900000) {i : Nat} {v : ByteArray} {c : Nat} (hr : P.read s (i : Int) = (v, c)) :
    Calls Tryz.prog 22 #[.pointer (some ⟨b, 0, none⟩), .int .i64 (s : Nat), .int .i64 (i : Nat)] w fun e w' => e = .returned (.tuple #[.string v, .int .i64 (c : Nat)]) ∧ Hid (SpIn W w' x s bm b fx gp P l j) := by
  refine (gRead h.own.pair hs (i : Int) (h.few.mono hj)).mono fun e w' ⟨h1, h2, h3⟩ => ?_
  rw [hr] at h1
  have ho := h.off
  rw [List.mem_cons, not_or] at ho
  exact ⟨h1, ⟨h.own.same h2.out h3.out, h.few, h.oth, h.obad, h.kbad, h.map.elim fun n hn => ⟨n, hn.keep h3.out ho.2⟩, h.offF, h.offG, h.bml⟩⟩
theorem SpIn.stored {i : Nat} (h : SpIn W w x s bm b fx gp P l j) :
    ∃ w1, (Instr.mapUpdate 28 (.map (some bm)) (.int .i64 (i : Nat)) (.bool true)).run Tryz.prog w = .ok () w1 ∧ Hid (SpIn W w1 x s bm b fx gp P (l ++ [i]) j) := by
  obtain ⟨n, hn⟩ := h.map
  obtain ⟨w1, h1, h2, h3, _⟩ := hn.update (d := .int .i64) (P := Tryz.prog) kvJ_key kvJ_inj Tryz.underlying28 Tryz.underlying3 (i : Int) (.bool true)
  rw [SF_put] at h2
  refine ⟨w1, h1, ⟨⟨h.own.pair.keep h3 (fun g hg hx => h.offG (by rw [← List.mem_singleton.1 hx]; exact hg)) (fun k hk g hg hx => h.offF k hk (by rw [← List.mem_singleton.1 hx]; exact hg)), h.own.gd, h.own.newF, h.own.newG, h.own.mods.trans h3 (fun k hk => .inr (by rw [List.mem_singleton.1 hk]; exact h.bml))⟩, h.few, h.oth, h.obad, h.kbad, ⟨_, h2⟩, h.offF, h.offG, h.bml⟩⟩
/-- At the end: the counts are the same. -/
theorem SpIn.count (h : SpIn W w x s bm b fx gp P l j) (hs : s < 2) (hl : l = (P.tab s).moved) : MapK kvJ w bm (SF fun a => decide (a ∈ l)) (distinct (P.tab s).moved) := by
  obtain ⟨n, hn⟩ := h.map
  have hmem : ∀ a ∈ (P.tab s).moved, a < 12 := fun a ha => by have := (h.own.gd.tok hs).each a ha; rw [h.own.gd.blocks hs] at this; exact this
  have hc := hn.count (N := 12) (fun a ha => by
    rw [hl, decide_eq_false_iff_not]
    intro hx
    have := hmem a hx
    omega)
  rw [distinct_count hmem, ← hl, ← hc]
  exact hn
end
end Go.Proofs.YtnpfhfgegjocoaaGreat
