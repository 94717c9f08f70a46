/- CacheLast's plain law: of numbers that are put one by one the last ones are kept; and how things stand in its loops. -/
import Derived.Test.YtahaecieklfhkaaArgsB
import Derived.Test.YtahaecieklfhkaaCache15
namespace Go.Proofs.Ytahaecieklfhkaa
open Go.RowKit

/-- The text of a number. -/
def pl (a : Nat) : ByteArray := ⟨#[UInt8.ofNat (97 + a)]⟩
theorem conv_rune (a : Nat) (h : a < 20) (W : World) : (convert 21 9 (.int .i32 (97 + (a : Int)))).run Try.prog W = .ok (.string (pl a)) W := by
  match a, h with
  | 0, _ => exact (show (convert 21 9 (.int .i32 97)).run Try.prog W = .ok (.string ⟨#[97]⟩) W by kernel_rfl)
  | 1, _ => exact (show (convert 21 9 (.int .i32 98)).run Try.prog W = .ok (.string ⟨#[98]⟩) W by kernel_rfl)
  | 2, _ => exact (show (convert 21 9 (.int .i32 99)).run Try.prog W = .ok (.string ⟨#[99]⟩) W by kernel_rfl)
  | 3, _ => exact (show (convert 21 9 (.int .i32 100)).run Try.prog W = .ok (.string ⟨#[100]⟩) W by kernel_rfl)
  | 4, _ => exact (show (convert 21 9 (.int .i32 101)).run Try.prog W = .ok (.string ⟨#[101]⟩) W by kernel_rfl)
  | 5, _ => exact (show (convert 21 9 (.int .i32 102)).run Try.prog W = .ok (.string ⟨#[102]⟩) W by kernel_rfl)
  | 6, _ => exact (show (convert 21 9 (.int .i32 103)).run Try.prog W = .ok (.string ⟨#[103]⟩) W by kernel_rfl)
  | 7, _ => exact (show (convert 21 9 (.int .i32 104)).run Try.prog W = .ok (.string ⟨#[104]⟩) W by kernel_rfl)
  | 8, _ => exact (show (convert 21 9 (.int .i32 105)).run Try.prog W = .ok (.string ⟨#[105]⟩) W by kernel_rfl)
  | 9, _ => exact (show (convert 21 9 (.int .i32 106)).run Try.prog W = .ok (.string ⟨#[106]⟩) W by kernel_rfl)
  | 10, _ => exact (show (convert 21 9 (.int .i32 107)).run Try.prog W = .ok (.string ⟨#[107]⟩) W by kernel_rfl)
  | 11, _ => exact (show (convert 21 9 (.int .i32 108)).run Try.prog W = .ok (.string ⟨#[108]⟩) W by kernel_rfl)
  | 12, _ => exact (show (convert 21 9 (.int .i32 109)).run Try.prog W = .ok (.string ⟨#[109]⟩) W by kernel_rfl)
  | 13, _ => exact (show (convert 21 9 (.int .i32 110)).run Try.prog W = .ok (.string ⟨#[110]⟩) W by kernel_rfl)
  | 14, _ => exact (show (convert 21 9 (.int .i32 111)).run Try.prog W = .ok (.string ⟨#[111]⟩) W by kernel_rfl)
  | 15, _ => exact (show (convert 21 9 (.int .i32 112)).run Try.prog W = .ok (.string ⟨#[112]⟩) W by kernel_rfl)
  | 16, _ => exact (show (convert 21 9 (.int .i32 113)).run Try.prog W = .ok (.string ⟨#[113]⟩) W by kernel_rfl)
  | 17, _ => exact (show (convert 21 9 (.int .i32 114)).run Try.prog W = .ok (.string ⟨#[114]⟩) W by kernel_rfl)
  | 18, _ => exact (show (convert 21 9 (.int .i32 115)).run Try.prog W = .ok (.string ⟨#[115]⟩) W by kernel_rfl)
  | 19, _ => exact (show (convert 21 9 (.int .i32 116)).run Try.prog W = .ok (.string ⟨#[116]⟩) W by kernel_rfl)
  | a + 20, h => exact absurd h (by omega)
theorem info_u8 : (Try.prog.info? 5).map (fun i => (i.zero, i.size, i.bytes)) = some (some (.int .u8 0), 1, 1) := by kernel_rfl
theorem run_makeMapU (W : World) : (Instr.makeMap 49 none).run Try.prog W = .ok (.map (some W.heap.size)) (W.alloc (.map #[] 0)) := by kernel_rfl

def kp (p : Nat × Nat) : Kept := ⟨p.1, p.2, 0, 4, pl (p.2 % 20)⟩
def drop1 (a : Nat) (P : List (Nat × Nat)) : List (Nat × Nat) := P.filter fun p => decide (p.1 ≠ a)
def put1 (P : List (Nat × Nat)) (a i : Nat) : List (Nat × Nat) := (a, i) :: drop1 a P
theorem others_kp (a : Nat) (L : List (Nat × Nat)) : others (a : Int) (L.map kp) = (drop1 a L).map kp := by
  unfold others drop1
  rw [List.filter_map]
  congr 1
  apply List.filter_congr
  intro x _
  have : (kp x).addr = (x.1 : Int) := rfl
  simp only [Function.comp, this]
  by_cases h : x.1 = a
  · simp [h]
  · have h2 : ¬ (x.1 : Int) = (a : Int) := by omega
    simp [h, h2]
theorem drop1_none {a : Nat} {P : List (Nat × Nat)} (h : a ∉ P.map (·.1)) : drop1 a P = P := by
  unfold drop1
  rw [List.filter_eq_self]
  intro x hx
  simp only [decide_eq_true_eq]
  rintro rfl
  exact h (List.mem_map.2 ⟨x, hx, rfl⟩)
theorem drop1_length {a : Nat} {P : List (Nat × Nat)} (hn : (P.map (·.1)).Nodup) : P.length ≤ (drop1 a P).length + 1 := by
  induction P with
  | nil => simp
  | cons x P ih =>
    rw [List.map_cons, List.nodup_cons] at hn
    by_cases h : x.1 = a
    · have : drop1 a (x :: P) = drop1 a P := by unfold drop1; rw [List.filter_cons_of_neg (by simp [h])]
      rw [this, drop1_none (by rw [← h]; exact hn.1)]
      simp
    · have : drop1 a (x :: P) = x :: drop1 a P := by unfold drop1; rw [List.filter_cons_of_pos (by simp [h])]
      rw [this]
      have := ih hn.2
      simp; omega
theorem drop1_take {a n : Nat} {P : List (Nat × Nat)} (hn : (P.map (·.1)).Nodup) : (drop1 a (P.take n)).take (n - 1) = (drop1 a P).take (n - 1) := by
  have e : drop1 a P = drop1 a (P.take n) ++ drop1 a (P.drop n) := by
    unfold drop1
    rw [← List.filter_append, List.take_append_drop]
  by_cases hl : P.length ≤ n
  · rw [List.take_of_length_le hl]
  · have h1 := drop1_length (a := a) (P := P.take n) (by rw [List.map_take]; exact hn.sublist (List.take_sublist _ _))
    rw [List.length_take] at h1
    rw [e, List.take_append_of_le_length (by omega)]
theorem put1_take {a i n : Nat} {P : List (Nat × Nat)} (hn : (P.map (·.1)).Nodup) (h1 : 1 ≤ n) : putK n ((P.take n).map kp) (kp (a, i)) = ((put1 P a i).take n).map kp := by
  obtain ⟨m, rfl⟩ : ∃ m, n = m + 1 := ⟨n - 1, by omega⟩
  unfold putK put1
  rw [show (kp (a, i)).addr = ((a : Nat) : Int) from rfl, others_kp, List.take_succ_cons, List.map_cons, ← List.map_take, drop1_take hn]
  rfl
theorem put1_nodup {a i : Nat} {P : List (Nat × Nat)} (hn : (P.map (·.1)).Nodup) : ((put1 P a i).map (·.1)).Nodup := by
  unfold put1
  rw [List.map_cons]
  refine List.nodup_cons.2 ⟨fun h => ?_, hn.sublist ((List.filter_sublist (l := P)).map _)⟩
  obtain ⟨x, hx, hxa⟩ := List.mem_map.1 h
  have := (List.mem_filter.1 hx).2
  simp only [decide_eq_true_eq] at this
  exact this hxa
theorem put1_all {a i : Nat} {P : List (Nat × Nat)} (ha : a < 40) (h : ∀ p ∈ P, p.1 < 40 ∧ p.2 < i) : ∀ p ∈ put1 P a i, p.1 < 40 ∧ p.2 < i + 1 := by
  intro p hp
  rcases List.mem_cons.1 hp with rfl | hp
  · exact ⟨ha, by simp⟩
  · have := h p ((List.mem_filter.1 hp).1)
    exact ⟨this.1, by omega⟩
def lastF (P : List (Nat × Nat)) (c : Int) : Option Value := (P.find? fun p => decide ((p.1 : Int) = c)).map fun p => .int .u64 (p.2 : Nat)
theorem lastF_put (P : List (Nat × Nat)) (a i : Nat) : putF (lastF P) (a : Int) (.int .u64 (i : Nat)) = lastF (put1 P a i) := by
  funext c
  unfold putF lastF put1
  by_cases hc : c = (a : Int)
  · rw [if_pos hc, List.find?_cons_of_pos (by simp [hc])]
    rfl
  · rw [if_neg hc, List.find?_cons_of_neg (by simp; omega)]
    congr 1
    unfold drop1
    rw [List.find?_filter]
    congr 1
    funext p
    by_cases h : (p.1 : Int) = c
    · have : p.1 ≠ a := by omega
      simp [h, this]
    · simp [h]
theorem lastF_at {P : List (Nat × Nat)} (hn : (P.map (·.1)).Nodup) {p : Nat × Nat} (hp : p ∈ P) : lastF P (p.1 : Int) = some (.int .u64 (p.2 : Nat)) := by
  unfold lastF
  have : P.find? (fun q => decide ((q.1 : Int) = (p.1 : Int))) = some p := by
    refine find_pre hp (by simp) (fun q hq hqa => ?_)
    exact nodup_map_inj hn hq hp (by simp only [decide_eq_true_eq] at hqa; omega)
  rw [this]; rfl

def intsA (P : List (Nat × Nat)) : List Value := P.map fun p => .int .i64 ((p.1 : Nat) : Int)
theorem put1_rev (P : List (Nat × Nat)) (a i : Nat) : intsA (put1 P a i).reverse = intsA (drop1 a P.reverse) ++ [.int .i64 (a : Nat)] := by
  unfold put1 intsA drop1
  rw [List.reverse_cons, List.map_append, List.filter_reverse]
  rfl
theorem drop1_snoc (a : Nat) (L : List (Nat × Nat)) (p : Nat × Nat) : drop1 a (L ++ [p]) = if p.1 ≠ a then drop1 a L ++ [p] else drop1 a L := by
  unfold drop1
  rw [List.filter_append]
  by_cases h : p.1 = a
  · simp [h]
  · simp [h]

/-- How things stand behind i puts. -/
structure LastW (w wr : World) (b bm n i : Nat) (P : List (Nat × Nat)) (A : Option Addr) : Prop where
  ex : ∃ fp, IsC wr b fp n ((P.take n).map kp) 0 0 i ∧ (∀ k ∈ fp, w.heap.size ≤ k) ∧ bm ∉ fp ∧ ∀ a, A = some a → a.block < wr.heap.size ∧ a.block ∉ fp
  nd : (P.map (·.1)).Nodup
  all : ∀ p ∈ P, p.1 < 40 ∧ p.2 < i
  last : ∃ nm, MapK kvC wr bm (lastF P) nm
  row : Row wr A (intsA P.reverse)
  mods : Mods [] w wr
  bml : w.heap.size ≤ bm
  bmlt : bm < wr.heap.size
  cnt : P.length ≤ i
  ab : ∀ a, A = some a → a.block ≠ bm
theorem LastW.next {w wr w2 w3 w4 : World} {b bm n i a : Nat} {P : List (Nat × Nat)} {A A2 : Option Addr} (h : LastW w wr b bm n i P A) (hn1 : 1 ≤ n) (ha : a < 40) {fp fp1 : List Nat} (hf : ∀ k ∈ fp, w.heap.size ≤ k) (hb : bm ∉ fp)
    (hc : IsC w2 b fp1 n (putK n ((P.take n).map kp) (kp (a, i))) 0 0 (i + 1)) (hm2 : Mods fp wr w2) (hsub : ∀ k ∈ fp1, k ∈ fp ∨ wr.heap.size ≤ k) (hM : ∃ nm, MapK kvC w3 bm (putF (lastF P) (a : Int) (.int .u64 (i : Nat))) nm) (hm3 : Mods [bm] w2 w3)
    (hm4 : Mods [] w3 w4) (hrow : Row w4 A2 (intsA (put1 P a i).reverse)) (hA2 : ∀ a, A2 = some a → w3.heap.size ≤ a.block ∧ a.block < w4.heap.size) : LastW w w4 b bm n (i + 1) (put1 P a i) A2 := by
  have s1 := h.mods.size
  have s2 := hm2.size
  have s3 := hm3.size
  have s4 := hm4.size
  have hbl := h.bmlt
  have hbf : bm ∉ fp1 := fun hk => by
    rcases hsub _ hk with hk | hk
    · exact hb hk
    · omega
  refine ⟨⟨fp1, ?_, fun k hk => ?_, hbf, fun x hx => ?_⟩, put1_nodup h.nd, put1_all ha h.all, ?_, hrow, ?_, h.bml, by omega, ?_, ?_⟩
  · rw [← put1_take h.nd hn1]
    exact (hc.keep hm3 (fun k hk hx => hbf (by rw [List.mem_singleton.1 hx] at hk; exact hk))).keep hm4 (by simp)
  · rcases hsub k hk with hk | hk
    · exact hf k hk
    · omega
  · have h1 := hA2 x hx
    refine ⟨h1.2, fun hk => ?_⟩
    have := hc.lt _ hk
    omega
  · obtain ⟨nm, hM⟩ := hM
    rw [lastF_put] at hM
    exact ⟨nm, hM.keep hm4 (by simp)⟩
  · exact ((h.mods.trans hm2 (fun k hk => .inr (hf k hk))).trans hm3 (fun k hk => .inr (by rw [List.mem_singleton.1 hk]; exact h.bml))).trans hm4 (by simp)
  · have := h.cnt
    have hl : (drop1 a P).length ≤ P.length := List.length_filter_le _ _
    unfold put1
    rw [List.length_cons]; omega
  · intro x hx
    have := hA2 x hx
    omega

/-- How things stand in the second loop: the same ones are kept. -/
structure AskW (w wr : World) (b bm n t : Nat) (P : List (Nat × Nat)) (A : Option Addr) (R : List Kept) : Prop where
  ex : ∃ fp c0 c1, IsC wr b fp n R c0 c1 t ∧ c0 ≤ t ∧ c1 ≤ t ∧ (∀ k ∈ fp, w.heap.size ≤ k) ∧ bm ∉ fp ∧ ∀ a, A = some a → a.block < wr.heap.size ∧ a.block ∉ fp
  mem : ∀ x, x ∈ R ↔ x ∈ (P.take n).map kp
  len : R.length = min n P.length
  last : ∃ nm, MapK kvC wr bm (lastF P) nm
  row : Row wr A (intsA P.reverse)
  mods : Mods [] w wr
theorem LastW.ask {w wr : World} {b bm n i : Nat} {P : List (Nat × Nat)} {A : Option Addr} (h : LastW w wr b bm n i P A) : AskW w wr b bm n i P A ((P.take n).map kp) := by
  obtain ⟨fp, h1, h2, h3, h4⟩ := h.ex
  exact ⟨⟨fp, 0, 0, h1, Nat.zero_le _, Nat.zero_le _, h2, h3, h4⟩, fun _ => Iff.rfl, by rw [List.length_map, List.length_take], h.last, h.row, h.mods⟩
theorem others_length3 {R : List Kept} {x : Kept} (hn : (R.map Kept.addr).Nodup) (hx : x ∈ R) : (others x.addr R).length + 1 = R.length := by
  induction R with
  | nil => cases hx
  | cons y R ih =>
    rw [List.map_cons, List.nodup_cons] at hn
    by_cases hxy : y.addr = x.addr
    · have : others x.addr (y :: R) = others x.addr R := by unfold others; rw [List.filter_cons_of_neg (by simp [hxy])]
      rw [this, others_none (by rw [← hxy]; exact hn.1)]
      rfl
    · have : others x.addr (y :: R) = y :: others x.addr R := by unfold others; rw [List.filter_cons_of_pos (by simp [hxy])]
      rw [this]
      have hx2 : x ∈ R := by
        rcases List.mem_cons.1 hx with rfl | hx
        · exact absurd rfl hxy
        · exact hx
      have := ih hn.2 hx2
      simp; omega
/-- A block that is asked for, and found. -/
theorem AskW.hit {w wr w1 w2 : World} {b bm n t : Nat} {P : List (Nat × Nat)} {A : Option Addr} {R : List Kept} (h : AskW w wr b bm n t P A R) {x : Kept} (hx : x ∈ R) (hadr : (R.map Kept.addr).Nodup) {fp fp1 : List Nat} {c0 c1 : Nat} (h1 : Mods [] wr w1) (hc : IsC w2 b fp1 n (x :: others x.addr R) (c0 + 1) c1 (t + 1)) (hm : Mods fp w1 w2) (hsub : ∀ k ∈ fp1, k ∈ fp)
    (hc0 : c0 ≤ t) (hc1 : c1 ≤ t) (hf : ∀ k ∈ fp, w.heap.size ≤ k) (hb : bm ∉ fp) (hA : ∀ a, A = some a → a.block < wr.heap.size ∧ a.block ∉ fp) : AskW w w2 b bm n (t + 1) P A (x :: others x.addr R) := by
  have s1 := h1.size
  have s2 := hm.size
  refine ⟨⟨fp1, c0 + 1, c1, hc, by omega, by omega, fun k hk => hf k (hsub k hk), fun hk => hb (hsub _ hk), fun a ha => ⟨by have := (hA a ha).1; omega, fun hk => (hA a ha).2 (hsub _ hk)⟩⟩, fun y => ?_, ?_, ?_, ?_, (h.mods.trans h1 (by simp)).trans hm (fun k hk => .inr (hf k hk))⟩
  · rw [← h.mem y, List.mem_cons]
    constructor
    · rintro (rfl | hy)
      · exact hx
      · unfold others at hy; exact (List.mem_filter.1 hy).1
    · intro hy
      by_cases hyx : y.addr = x.addr
      · exact .inl (nodup_map_inj hadr hy hx hyx)
      · exact .inr (List.mem_filter.2 ⟨hy, by simpa using hyx⟩)
  · rw [List.length_cons, others_length3 hadr hx]; exact h.len
  · obtain ⟨nm, hM⟩ := h.last
    exact ⟨nm, (hM.keep h1 (by simp)).keep hm hb⟩
  · exact (h.row.keep h1 (fun _ _ => by simp)).keep hm (fun a ha => (hA a ha).2)
/-- A block that is asked for, and isn't found. -/
theorem AskW.miss {w wr w1 w2 : World} {b bm n t : Nat} {P : List (Nat × Nat)} {A : Option Addr} {R : List Kept} (h : AskW w wr b bm n t P A R) {fp : List Nat} {c0 c1 : Nat} (h1 : Mods [] wr w1) (hc : IsC w2 b fp n R c0 (c1 + 1) t) (hm : Mods fp w1 w2) (hc0 : c0 ≤ t) (hc1 : c1 ≤ t) (hf : ∀ k ∈ fp, w.heap.size ≤ k) (hb : bm ∉ fp) (hA : ∀ a, A = some a → a.block < wr.heap.size ∧ a.block ∉ fp) :
    AskW w w2 b bm n (t + 1) P A R := by
  have s1 := h1.size
  have s2 := hm.size
  refine ⟨⟨fp, c0, c1 + 1, ?_, by omega, by omega, hf, hb, fun a ha => ⟨by have := (hA a ha).1; omega, (hA a ha).2⟩⟩, h.mem, h.len, ?_, ?_, (h.mods.trans h1 (by simp)).trans hm (fun k hk => .inr (hf k hk))⟩
  · obtain ⟨S, k1, k2, k3, k4, k5, k6⟩ := hc
    exact ⟨S, k1, k2, k3, k4, k5, by omega⟩
  · obtain ⟨nm, hM⟩ := h.last
    exact ⟨nm, (hM.keep h1 (by simp)).keep hm hb⟩
  · exact (h.row.keep h1 (fun _ _ => by simp)).keep hm (fun a ha => (hA a ha).2)
/-- What is found of the i-th one. -/
theorem ask_get {P : List (Nat × Nat)} {n : Nat} {R : List Kept} (hn : (P.map (·.1)).Nodup) (hadr : (R.map Kept.addr).Nodup) (hmem : ∀ x, x ∈ R ↔ x ∈ (P.take n).map kp) {i : Nat} {p : Nat × Nat} (hp : P.reverse[i]? = some p) :
    (P.length ≤ i + n ∧ kp p ∈ R ∧ getK R p.1 p.2 0 = some (kp p)) ∨ (i + n < P.length ∧ getK R p.1 p.2 0 = none) := by
  have hi : i < P.length := by have := (List.getElem?_eq_some_iff.1 hp).1; simpa using this
  have hp2 : P[P.length - 1 - i]? = some p := by rw [List.getElem?_reverse hi] at hp; exact hp
  by_cases hk : P.length ≤ i + n
  · have hin : p ∈ P.take n := by
      refine List.mem_of_getElem? (i := P.length - 1 - i) ?_
      rw [List.getElem?_take, if_pos (by omega)]; exact hp2
    have hR : kp p ∈ R := (hmem _).2 (List.mem_map.2 ⟨p, hin, rfl⟩)
    refine .inl ⟨hk, hR, find_pre hR (Kept.is_iff.2 ⟨rfl, rfl, rfl⟩) (fun y hy hyi => ?_)⟩
    exact nodup_map_inj hadr hy hR (Kept.is_iff.1 hyi).1
  · refine .inr ⟨by omega, ?_⟩
    unfold getK
    rw [List.find?_eq_none]
    intro y hy hyi
    obtain ⟨q, hq, rfl⟩ := List.mem_map.1 ((hmem y).1 hy)
    obtain ⟨j, hj⟩ := List.getElem?_of_mem hq
    rw [List.getElem?_take] at hj
    by_cases hjn : j < n
    · rw [if_pos hjn] at hj
      have hqa := (Kept.is_iff.1 hyi).1
      have hqp : q.1 = p.1 := by have : ((q.1 : Nat) : Int) = (p.1 : Int) := hqa; omega
      have e1 : (P.map (·.1))[j]? = some p.1 := by rw [List.getElem?_map, hj, ← hqp]; rfl
      have e2 : (P.map (·.1))[P.length - 1 - i]? = some p.1 := by rw [List.getElem?_map, hp2]; rfl
      have := (List.getElem?_inj (List.getElem?_eq_some_iff.1 e1).1 hn).1 (e1.trans e2.symm)
      omega
    · rw [if_neg hjn] at hj; cases hj
theorem zeroU64 (W : World) : (zeroValue 25).run Try.prog W = .ok (.int .u64 0) W := by kernel_rfl
theorem AskW.look {w wr : World} {b bm n t : Nat} {P : List (Nat × Nat)} {A : Option Addr} {R : List Kept} (h : AskW w wr b bm n t P A R) (hn : (P.map (·.1)).Nodup) {p : Nat × Nat} (hp : p ∈ P) :
    (Instr.lookup 49 (.map (some bm)) (.int .i64 (p.1 : Nat)) false).run Try.prog wr = .ok (.int .u64 (p.2 : Nat)) wr := by
  obtain ⟨nm, hM⟩ := h.last
  have := hM.lookup (P := Try.prog) (T := 49) (K := 3) (E := 25) (d := .int .i64) kvC_key Try.underlying49 Try.underlying3 (zeroU64 wr) (p.1 : Int) false
  rw [lastF_at hn hp] at this
  exact this
theorem row_lt {w : World} {A : Option Addr} {xs : List Value} (h : Row w A xs) (hx : xs ≠ []) {a : Addr} (ha : A = some a) : a.block < w.heap.size := by
  rcases h with h | ⟨b, off, h1, h2⟩
  · exact absurd h hx
  · obtain rfl := Option.some.inj (ha.symm.trans h1)
    cases xs with
    | nil => exact absurd rfl hx
    | cons x xs => exact World.block_lt_of_cell? w _ (h2 0 x rfl)
theorem ask_other {P : List (Nat × Nat)} {n : Nat} {R : List Kept} (hmem : ∀ x, x ∈ R ↔ x ∈ (P.take n).map kp) (a : Int) (g : Nat) : getK R a g 1 = none := by
  unfold getK
  rw [List.find?_eq_none]
  intro y hy hyi
  obtain ⟨q, _, rfl⟩ := List.mem_map.1 ((hmem y).1 hy)
  have h1 := (Kept.is_iff.1 hyi).2.2
  exact absurd (show (0 : Nat) = 1 from h1) (by decide)
end Go.Proofs.Ytahaecieklfhkaa
