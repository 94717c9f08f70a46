/- CacheHits: whatever the number and the bytes, the law answers true: of blocks that are asked for again and again, no more than there are slots, each is read but once. No condition but the form's own. -/
import Derived.Test.YtahaecieklfhkaaOwn
import Derived.Test.YtahaecieklfhkaaArgsB
import Derived.Test.YtahaecieklfhkaaCache15
namespace Go.Proofs.Ytahaecieklfhkaa
open Go.ChangeShapes Go.WideShapes Go.ChangeAt Go.RowKit

theorem nodup_lt : ∀ (n : Nat) (l : List Nat), l.Nodup → (∀ x ∈ l, x < n) → l.length ≤ n
  | 0, l, _, h => by
    cases l with
    | nil => simp
    | cons x l => have := h x (by simp); omega
  | n + 1, l, hn, h => by
    by_cases hm : n ∈ l
    · have ih := nodup_lt n (l.erase n) (hn.erase n) (fun x hx => by
        have h1 := h x (List.mem_of_mem_erase hx)
        have h2 : x ≠ n := fun e => by rw [e] at hx; exact (List.Nodup.not_mem_erase hn) hx
        omega)
      rw [List.length_erase_of_mem hm] at ih
      omega
    · have ih := nodup_lt n l hn (fun x hx => by
        have h1 := h x hx
        have h2 : x ≠ n := fun e => hm (by rw [← e]; exact hx)
        omega)
      omega

/-- The text and the block of a number. -/
def pl (a : Nat) : ByteArray := ⟨#[UInt8.ofNat (97 + a)]⟩
def kk (a : Nat) : Kept := ⟨a, 7, 0, 4, pl a⟩
def seenF (R : List Kept) (c : Int) : Option Value := if c ∈ R.map Kept.addr then some (.bool true) else none
/-- How things stand behind i asks. -/
structure HitsW (w wr : World) (b bm n i : Nat) (R : List Kept) : Prop where
  ex : ∃ fp, IsC wr b fp n R (i - R.length) R.length (2 * i) ∧ (∀ k ∈ fp, w.heap.size ≤ k) ∧ bm ∉ fp
  all : ∀ x ∈ R, ∃ a : Nat, a < n ∧ x = kk a
  le : R.length ≤ i
  seen : MapK kvC wr bm (seenF R) R.length
  mods : Mods [] w wr
  bml : w.heap.size ≤ bm
theorem HitsW.adr {w wr : World} {b bm n i : Nat} {R : List Kept} (h : HitsW w wr b bm n i R) : (R.map Kept.addr).Nodup := by obtain ⟨fp, hc, _⟩ := h.ex; exact hc.adr
theorem hits_get {R : List Kept} {n : Nat} (hn : (R.map Kept.addr).Nodup) (hall : ∀ x ∈ R, ∃ a : Nat, a < n ∧ x = kk a) (a : Nat) : ((a : Int) ∈ R.map Kept.addr ∧ getK R a 7 0 = some (kk a) ∧ kk a ∈ R) ∨ ((a : Int) ∉ R.map Kept.addr ∧ getK R a 7 0 = none) := by
  by_cases h : (a : Int) ∈ R.map Kept.addr
  · refine .inl ⟨h, ?_⟩
    obtain ⟨x, hx, hxa⟩ := List.mem_map.1 h
    obtain ⟨a2, _, rfl⟩ := hall x hx
    have : a2 = a := by have : ((a2 : Nat) : Int) = a := hxa; omega
    subst this
    refine ⟨find_pre hx (Kept.is_iff.2 ⟨rfl, rfl, rfl⟩) (fun y hy hyi => ?_), hx⟩
    exact nodup_map_inj hn hy hx (Kept.is_iff.1 hyi).1
  · refine .inr ⟨h, ?_⟩
    unfold getK
    rw [List.find?_eq_none]
    intro y hy hyi
    exact h (by rw [← (Kept.is_iff.1 hyi).1]; exact List.mem_map.2 ⟨y, hy, rfl⟩)
theorem others_length {R : List Kept} {x : Kept} (hn : (R.map Kept.addr).Nodup) (hx : x ∈ R) : (others x.addr R).length + 1 = R.length := by
  induction R with
  | nil => cases hx
  | cons y R ih =>
    rw [List.map_cons, List.nodup_cons] at hn
    by_cases hxy : y.addr = x.addr
    · have : others x.addr (y :: R) = others x.addr R := by unfold others; rw [List.filter_cons_of_neg (by simp [hxy])]
      rw [this, others_none (by rw [← hxy]; exact hn.1)]
      rfl
    · have : others x.addr (y :: R) = y :: others x.addr R := by unfold others; rw [List.filter_cons_of_pos (by simp [hxy])]
      rw [this]
      have hx2 : x ∈ R := by
        rcases List.mem_cons.1 hx with rfl | hx
        · exact absurd rfl hxy
        · exact hx
      have := ih hn.2 hx2
      simp; omega
theorem others_mem {R : List Kept} {a : Int} {x : Kept} (h : x ∈ others a R) : x ∈ R ∧ x.addr ≠ a := by
  unfold others at h
  have := List.mem_filter.1 h
  exact ⟨this.1, by simpa using this.2⟩
theorem seenF_hit {R : List Kept} {x : Kept} (hx : x ∈ R) : seenF (x :: others x.addr R) = seenF R := by
  funext c
  have h : c ∈ (x :: others x.addr R).map Kept.addr ↔ c ∈ R.map Kept.addr := by
    simp only [List.map_cons, List.mem_cons, List.mem_map]
    constructor
    · rintro (rfl | ⟨y, hy, rfl⟩)
      · exact ⟨x, hx, rfl⟩
      · exact ⟨y, (others_mem hy).1, rfl⟩
    · rintro ⟨y, hy, rfl⟩
      by_cases hyx : y.addr = x.addr
      · exact .inl hyx
      · exact .inr ⟨y, List.mem_filter.2 ⟨hy, by simpa using hyx⟩, rfl⟩
  unfold seenF
  by_cases hc : c ∈ R.map Kept.addr
  · rw [if_pos hc, if_pos (h.2 hc)]
  · rw [if_neg hc, if_neg (fun e => hc (h.1 e))]
theorem seenF_put {R : List Kept} {x : Kept} : putF (seenF R) x.addr (.bool true) = seenF (x :: R) := by
  funext c
  unfold putF seenF
  by_cases hc : c = x.addr
  · rw [if_pos hc, if_pos (by simp [hc])]
  · rw [if_neg hc]
    by_cases h2 : c ∈ R.map Kept.addr
    · rw [if_pos h2, if_pos (by rw [List.map_cons]; exact List.mem_cons_of_mem _ h2)]
    · rw [if_neg h2, if_neg (by rw [List.map_cons]; intro h; rcases List.mem_cons.1 h with h | h; exact hc h; exact h2 h)]
/-- A hit. -/
theorem HitsW.hit {w wr w2 : World} {b bm n i a : Nat} {R : List Kept} (h : HitsW w wr b bm n i R) (hx : kk a ∈ R) {fp fp1 : List Nat} (hf : ∀ k ∈ fp, w.heap.size ≤ k) (hb : bm ∉ fp) (hc : IsC w2 b fp1 n (kk a :: others a R) (i - R.length + 1) R.length (2 * i + 1)) (hm : Mods fp wr w2) (hsub : ∀ k ∈ fp1, k ∈ fp) :
    HitsW w w2 b bm n (i + 1) (kk a :: others a R) := by
  have hl : (kk a :: others a R).length = R.length := by have := others_length h.adr hx; simp; exact this
  have hle := h.le
  refine ⟨⟨fp1, ?_, fun k hk => hf k (hsub k hk), fun hk => hb (hsub _ hk)⟩, ?_, by rw [hl]; omega, ?_, h.mods.trans hm (fun k hk => .inr (hf k hk)), h.bml⟩
  · rw [hl, show i + 1 - R.length = i - R.length + 1 by omega]
    obtain ⟨S, h1, h2, h3, h4, h5, h6⟩ := hc
    exact ⟨S, h1, h2, h3, h4, h5, by omega⟩
  · intro x hx2
    rcases List.mem_cons.1 hx2 with rfl | hx2
    · exact h.all _ hx
    · exact h.all x (others_mem hx2).1
  · rw [hl]
    have e1 : seenF (kk a :: others a R) = seenF R := seenF_hit hx
    rw [e1]; exact h.seen.keep hm hb
/-- A miss, and what is put then. -/
theorem HitsW.miss {w wr w2 w3 w4 : World} {b bm n i a : Nat} {R : List Kept} (h : HitsW w wr b bm n i R) (hno : (a : Int) ∉ R.map Kept.addr) (han : a < n) {fp fp1 : List Nat} (hf : ∀ k ∈ fp, w.heap.size ≤ k) (hb : bm ∉ fp) (hm2 : Mods fp wr w2)
    (hM : MapK kvC w3 bm (putF (seenF R) a (.bool true)) (R.length + 1)) (hm3 : Mods [bm] w2 w3) (hc : IsC w4 b fp1 n (putK n R (kk a)) (i - R.length) (R.length + 1) (2 * i + 1)) (hm4 : Mods fp w3 w4) (hsub : ∀ k ∈ fp1, k ∈ fp ∨ w3.heap.size ≤ k) :
    HitsW w w4 b bm n (i + 1) (kk a :: R) ∧ putK n R (kk a) = kk a :: R := by
  have hadr := h.adr
  have hlen : R.length + 1 ≤ n := by
    have h1 : ((kk a :: R).map Kept.addr).Nodup := by rw [List.map_cons]; exact List.nodup_cons.2 ⟨hno, hadr⟩
    have h0 : ∀ x ∈ kk a :: R, 0 ≤ x.addr := by
      intro x hx
      rcases List.mem_cons.1 hx with rfl | hx
      · exact Int.natCast_nonneg a
      · obtain ⟨a2, _, rfl⟩ := h.all x hx
        exact Int.natCast_nonneg a2
    have h2 : ((kk a :: R).map (fun x => x.addr.toNat)).Nodup := by
      unfold List.Nodup at h1 ⊢
      rw [List.pairwise_map] at h1 ⊢
      refine h1.imp_of_mem (fun {x y} hx hy hxy e => hxy ?_)
      have := h0 x hx
      have := h0 y hy
      omega
    have h3 := nodup_lt n _ h2 (fun x hx => by
      obtain ⟨y, hy, rfl⟩ := List.mem_map.1 hx
      rcases List.mem_cons.1 hy with rfl | hy
      · exact han
      · obtain ⟨a2, h2, rfl⟩ := h.all y hy
        exact h2)
    simpa using h3
  have hput : putK n R (kk a) = kk a :: R := by
    unfold putK
    rw [show (kk a).addr = (a : Int) from rfl, others_none hno, List.take_of_length_le (by omega)]
  have hle := h.le
  refine ⟨⟨⟨fp1, ?_, ?_, ?_⟩, ?_, by simp; omega, ?_, ?_, h.bml⟩, hput⟩
  · rw [hput] at hc
    rw [List.length_cons, show i + 1 - (R.length + 1) = i - R.length by omega]
    obtain ⟨S, h1, h2, h3, h4, h5, h6⟩ := hc
    exact ⟨S, h1, h2, h3, h4, h5, by omega⟩
  · intro k hk
    rcases hsub k hk with hk | hk
    · exact hf k hk
    · have := h.mods.size; have := hm2.size; have := hm3.size; omega
  · intro hk
    rcases hsub _ hk with hk | hk
    · exact hb hk
    · have := hM.lt; omega
  · intro x hx
    rcases List.mem_cons.1 hx with rfl | hx
    · exact ⟨a, han, rfl⟩
    · exact h.all x hx
  · have e1 : seenF (kk a :: R) = putF (seenF R) (a : Int) (.bool true) := seenF_put.symm
    rw [e1, List.length_cons]; exact hM.keep hm4 hb
  · exact ((h.mods.trans hm2 (fun k hk => .inr (hf k hk))).trans hm3 (fun k hk => .inr (by rw [List.mem_singleton.1 hk]; exact h.bml))).trans hm4 (fun k hk => .inr (hf k hk))

theorem info_u8 : (Try.prog.info? 5).map (fun i => (i.zero, i.size, i.bytes)) = some (some (.int .u8 0), 1, 1) := by kernel_rfl
theorem run_makeMapB (W : World) : (Instr.makeMap 75 none).run Try.prog W = .ok (.map (some W.heap.size)) (W.alloc (.map #[] 0)) := by kernel_rfl
theorem conv_rune (a : Nat) (h : a < 20) (W : World) : (convert 21 9 (.int .i32 (97 + (a : Int)))).run Try.prog W = .ok (.string (pl a)) W := by
  match a, h with
  | 0, _ => exact (show (convert 21 9 (.int .i32 97)).run Try.prog W = .ok (.string ⟨#[97]⟩) W by kernel_rfl)
  | 1, _ => exact (show (convert 21 9 (.int .i32 98)).run Try.prog W = .ok (.string ⟨#[98]⟩) W by kernel_rfl)
  | 2, _ => exact (show (convert 21 9 (.int .i32 99)).run Try.prog W = .ok (.string ⟨#[99]⟩) W by kernel_rfl)
  | 3, _ => exact (show (convert 21 9 (.int .i32 100)).run Try.prog W = .ok (.string ⟨#[100]⟩) W by kernel_rfl)
  | 4, _ => exact (show (convert 21 9 (.int .i32 101)).run Try.prog W = .ok (.string ⟨#[101]⟩) W by kernel_rfl)
  | 5, _ => exact (show (convert 21 9 (.int .i32 102)).run Try.prog W = .ok (.string ⟨#[102]⟩) W by kernel_rfl)
  | 6, _ => exact (show (convert 21 9 (.int .i32 103)).run Try.prog W = .ok (.string ⟨#[103]⟩) W by kernel_rfl)
  | 7, _ => exact (show (convert 21 9 (.int .i32 104)).run Try.prog W = .ok (.string ⟨#[104]⟩) W by kernel_rfl)
  | 8, _ => exact (show (convert 21 9 (.int .i32 105)).run Try.prog W = .ok (.string ⟨#[105]⟩) W by kernel_rfl)
  | 9, _ => exact (show (convert 21 9 (.int .i32 106)).run Try.prog W = .ok (.string ⟨#[106]⟩) W by kernel_rfl)
  | 10, _ => exact (show (convert 21 9 (.int .i32 107)).run Try.prog W = .ok (.string ⟨#[107]⟩) W by kernel_rfl)
  | 11, _ => exact (show (convert 21 9 (.int .i32 108)).run Try.prog W = .ok (.string ⟨#[108]⟩) W by kernel_rfl)
  | 12, _ => exact (show (convert 21 9 (.int .i32 109)).run Try.prog W = .ok (.string ⟨#[109]⟩) W by kernel_rfl)
  | 13, _ => exact (show (convert 21 9 (.int .i32 110)).run Try.prog W = .ok (.string ⟨#[110]⟩) W by kernel_rfl)
  | 14, _ => exact (show (convert 21 9 (.int .i32 111)).run Try.prog W = .ok (.string ⟨#[111]⟩) W by kernel_rfl)
  | 15, _ => exact (show (convert 21 9 (.int .i32 112)).run Try.prog W = .ok (.string ⟨#[112]⟩) W by kernel_rfl)
  | 16, _ => exact (show (convert 21 9 (.int .i32 113)).run Try.prog W = .ok (.string ⟨#[113]⟩) W by kernel_rfl)
  | 17, _ => exact (show (convert 21 9 (.int .i32 114)).run Try.prog W = .ok (.string ⟨#[114]⟩) W by kernel_rfl)
  | 18, _ => exact (show (convert 21 9 (.int .i32 115)).run Try.prog W = .ok (.string ⟨#[115]⟩) W by kernel_rfl)
  | 19, _ => exact (show (convert 21 9 (.int .i32 116)).run Try.prog W = .ok (.string ⟨#[116]⟩) W by kernel_rfl)
  | a + 20, h => exact absurd h (by omega)
set_option maxRecDepth 100000 in
set_option maxHeartbeats 3200000 in
theorem cacheHits_walk (s : Nat) (A : Option Addr) (len cap : Nat) (zs : List Nat) (w : World) (hr : Row w A (u8sOf zs)) (hz : zs.length = len) (hlc : len ≤ cap) (hcm : cap ≤ maxLen) (hb : ∀ z ∈ zs, z < 256) :
    Calls Try.prog 7 #[.int .u8 s, .slice A len cap] w fun e w' => e = .returned (.bool true) ∧ Mods [] w w' := by
  have HR := Lib.hid hr
  have HL := Lib.hid hz
  have HZ := Lib.hid hb
  clear hr hz hb
  unfold maxLen at hcm
  obtain ⟨q, hq⟩ : ∃ q : Nat, (s : Int) % 12 = (q : Int) := ⟨s % 12, by omega⟩
  have hq12 : q < 12 := by omega
  obtain ⟨n, hn⟩ : ∃ n : Nat, 1 + (q : Int) = (n : Int) := ⟨1 + q, by omega⟩
  have hn1 : 1 ≤ n := by omega
  have hn12 : n ≤ 12 := by omega
  obtain ⟨p, hp⟩ : ∃ p : Nat, min (len : Int) 100 = (p : Int) := ⟨min len 100, by omega⟩
  have hpl : p ≤ len := by omega
  have hp100 : p ≤ 100 := by omega
  have hpm : max (p : Int) 0 = (p : Int) := by omega
  obtain ⟨i8, hi8, _, _, _⟩ := info_parts info_u8
  have hsl := fun (k : Int) (h0 : 0 ≤ k) (h1 : k ≤ cap) (W : World) => run_prefix Try.prog 44 5 i8 A len cap k W Try.underlying44 hi8 h0 h1
  have hnw := Lib.hid (cNew_any w n hn1 (by omega))
  go_enter Try.func7, Try.ntmps7
  go_wp2_with fail
  refine hnw.out.mono ?_
  rintro x w1 ⟨b, fp0, rfl, hm1, hc1, hf1⟩
  have H1 := Lib.hid (And.intro hm1 (And.intro hc1 hf1))
  clear hm1 hc1 hf1 hnw
  go_wp2_with fail
  refine (w11_any w1).mono ?_
  rintro x w2 ⟨rfl, hm2⟩
  have HM2 := Lib.hid hm2
  have hmm := run_makeMapB w2
  clear hm2
  go_wp2_with fail
  clear hsl hp hq hn hmm
  obtain ⟨w3, hw3⟩ : ∃ w3, w2.alloc (.map #[] 0) = w3 := ⟨_, rfl⟩
  have hmap : MapK kvC w3 w2.heap.size (fun _ => none) 0 := by rw [← hw3]; exact MapK.made w2
  have hm3 : Mods [] w2 w3 := by rw [← hw3]; exact (Mods.refl _ _).alloc _
  rw [hw3]
  obtain ⟨bm, hbm⟩ : ∃ bm, w2.heap.size = bm := ⟨_, rfl⟩
  rw [hbm] at hmap ⊢
  have HW : Hid (HitsW w w3 b bm n 0 []) := by
    obtain ⟨hm1, hc1, hf1⟩ := H1.out
    have hsz := HM2.out.size
    have hsz1 := hm1.size
    refine ⟨⟨fp0, (hc1.keep HM2.out (by simp)).keep hm3 (by simp), hf1, fun h => ?_⟩, by simp, Nat.le_refl _, ?_, (hm1.trans HM2.out (by simp)).trans hm3 (by simp), by omega⟩
    · have := hc1.lt _ h; omega
    · have : seenF [] = fun _ => none := by funext c; simp [seenF]
      rw [this]; exact hmap
  clear hw3 hmap hm3 hbm H1 HM2
  go_loopw [8, 45] (fun rv iv wr => ∃ i : Nat, i ≤ p ∧ iv = .int .i64 i ∧ ∃ R, rv = .int .i64 (R.length : Nat) ∧ HitsW w wr b bm n i R) (fun _ iv _ => p - (intOf iv).toNat)
  case atStart => exact ⟨0, Nat.zero_le _, rfl, [], rfl, HW.out⟩
  case round =>
    obtain ⟨i, hi, rfl, R, rfl, hW⟩ := hrel
    clear HW
    by_cases hlt : i < p
    · have hzi : i < zs.length := by have := HL.out; omega
      obtain ⟨bz, off, rfl, hcell⟩ := (HR.out.keep hW.mods (fun _ _ => by simp)).at (i := i) (u := .int .u8 (zs[i] : Nat)) (by simp [u8sOf, hzi])
      have hz256 := HZ.out _ (List.getElem_mem hzi)
      generalize zs[i] = z at *
      obtain ⟨a, ha⟩ : ∃ a : Nat, (z : Int) % (n : Int) = (a : Int) := ⟨z % n, by rw [← Int.natCast_emod]⟩
      have han : a < n := by have := Int.emod_lt_of_pos (z : Int) (show (0 : Int) < n by omega); omega
      have hrem : (z : Int).tmod (n : Int) = (a : Int) := by rw [Int.tmod_eq_emod_of_nonneg (by omega)]; exact ha
      have hcv := conv_rune a (by omega)
      have hadr := hW.adr
      obtain ⟨fp, hC, hF, hB⟩ := hW.ex
      have hle := hW.le
      have HW := Lib.hid hW
      have HC := Lib.hid hC
      have HF := Lib.hid (And.intro hF hB)
      have hall := hW.all
      clear hC hF hB
      go_wp2_with fail
      obtain ⟨wA, hwA⟩ : ∃ wA, wr.alloc (.cells #[.int .i64 a, .int .u64 7, .int .u32 0] 53) = wA := ⟨_, rfl⟩
      have hmA : Mods [] wr wA := by rw [← hwA]; exact (Mods.refl _ _).alloc _
      have hBA : Blk wA wr.heap.size 53 [.int .i64 a, .int .u64 7, .int .u32 0] := by rw [← hwA]; exact Blk.new wr 53 _
      rw [hwA]
      have HA := Lib.hid hmA
      have HBA := Lib.hid hBA
      have HCA := Lib.hid (HC.out.keep hmA (by simp))
      have hnp : wr.heap.size ∉ fp := fun h => by have := HC.out.lt _ h; omega
      clear hwA hmA hBA hW
      rcases hits_get hadr hall a with ⟨hin, hg, hmem⟩ | ⟨hno, hg⟩
      · have hgt := Lib.hid (cGet_hit HCA.out a 7 0 hg (by omega) (by omega))
        have hpay : (kk a).pay = pl a := rfl
        rw [hpay] at hgt
        clear hin hall hadr
        refine hgt.out.mono ?_
        rintro x w4 ⟨rfl, fp1, hC1, hM1, hS1⟩
        have HN : Hid (HitsW w w4 b bm n (i + 1) (kk a :: others a R) ∧ (kk a :: others a R).length = R.length) := by
          have hl : (kk a :: others a R).length = R.length := by
            have := others_length HW.out.adr hmem
            simp
            exact this
          exact ⟨HW.out.hit hmem HF.out.1 HF.out.2 hC1 ((HA.out.mono (by simp)).trans hM1 (fun k hk => .inl hk)) hS1, hl⟩
        have b0 := (HBA.out.keep hM1 hnp).cell (i := 0) rfl
        clear hC1 hM1 hS1 hgt
        go_wp2_with fail
        go_roundw
        case rel => exact ⟨i + 1, by omega, by simp, kk a :: others a R, by rw [HN.out.2], HN.out.1⟩
        case measure => simp [intOf]; omega
      · have hgm := Lib.hid (cGet_miss HCA.out a 7 0 hg (by omega))
        clear hall hadr
        refine hgm.out.mono ?_
        rintro x w4 ⟨rfl, hC1, hM1⟩
        have hM4 : Mods fp wr w4 := (HA.out.mono (by simp)).trans hM1 (fun k hk => .inl hk)
        have hB4 := HBA.out.keep hM1 hnp
        obtain ⟨w5, hup, hM5, hm5, _⟩ := ((HW.out.seen).keep hM4 HF.out.2).update (P := Try.prog) (T := 75) (K := 3) (E := 4) (d := .int .i64) kvC_key kvC_inj Try.underlying75 Try.underlying3 (a : Int) (.bool true)
        simp only [kvC] at hup
        have hs0 : (seenF R (a : Int)).isSome = false := by unfold seenF; rw [if_neg hno]; rfl
        rw [hs0] at hM5
        have hbmlt := HW.out.seen.lt
        have hpb : wr.heap.size ∉ [bm] := by simp; omega
        have hB5 := hB4.keep hm5 hpb
        have b0 := hB4.cell (i := 0) rfl
        have d0 := hB5.cell (i := 0) rfl
        have d1 := hB5.cell (i := 1) rfl
        have d2 := hB5.cell (i := 2) rfl
        have hC5 := hC1.keep hm5 (fun k hk hx => HF.out.2 (by rw [List.mem_singleton.1 hx] at hk; exact hk))
        have hpt := Lib.hid (cPut_any hC5 hn1 a 7 0 4 (pl a) (by omega))
        have HM4 := Lib.hid (And.intro hM4 (And.intro hM5 hm5))
        clear hC1 hM1 hgm hM4 hB4 hM5 hm5 hs0 hbmlt hpb hB5 hC5 hnp hg
        go_wp2_with fail
        refine hpt.out.mono ?_
        rintro x w6 ⟨rfl, fp1, hC6, hM6, hS6⟩
        have HN : Hid (HitsW w w6 b bm n (i + 1) (kk a :: R)) :=
          (HW.out.miss hno han HF.out.1 HF.out.2 HM4.out.1 HM4.out.2.1 HM4.out.2.2 (by
            obtain ⟨S, k1, k2, k3, k4, k5, k6⟩ := hC6
            exact ⟨S, k1, k2, k3, k4, k5, k6⟩) hM6 hS6).1
        clear hC6 hM6 hS6 hpt hno
        go_wp2_with fail
        go_roundw
        case rel => exact ⟨i + 1, by omega, by simp, kk a :: R, by simp, HN.out⟩
        case measure => simp [intOf]; omega
    · obtain rfl : i = p := by omega
      obtain ⟨fp, hC, hF, hB⟩ := hW.ex
      have hle := hW.le
      have hseen := hW.seen
      have hcnt := Lib.hid (cCounts_any hC)
      have hls := fun q => Lib.hid (cList_any (hC.drewN q))
      have hlen1 := fun (W : World) (h : Mods [] wr W) ty => (hseen.keep h (by simp)).len (P := Try.prog) (T := 75) Try.underlying75 ty
      have HLN := Lib.hid hlen1
      have HM := Lib.hid hW.mods
      clear hC hF hB hW hseen hlen1
      go_wp2_with fail
      refine hcnt.out.mono ?_
      rintro x w4 ⟨rfl, q4, rfl⟩
      have hl4 := HLN.out (wr.drewN q4) ((Mods.refl _ _).drewN q4)
      go_wp2_with fail
      refine (hls q4).out.mono ?_
      rintro x w5 ⟨u, rfl, hrow, hm5, hnil⟩
      have HM5 : Hid (Mods [] w w5) := (HM.out.drewN q4).trans hm5 (by simp)
      have hl5 := HLN.out w5 (((Mods.refl _ _).drewN q4).trans hm5 (by simp))
      obtain ⟨su, cu, rfl⟩ : ∃ su cu, u = .slice su R.length cu := by
        rcases hrow.2 with ⟨rfl, h0⟩ | ⟨g, cap, cur, rfl, _⟩
        · exact ⟨_, _, by rw [h0]⟩
        · exact ⟨_, _, rfl⟩
      clear hrow hm5 hnil hls
      go_wp2_with fail
      go_ret
      exact ⟨by simp, HM5.out⟩
theorem readables_cacheHits : ∀ t ∈ (#[5, 44] : Array TypeId).toList, Try.prog.readableRec t = true ∧ t < Try.prog.types.size := by
  intro t ht
  simp only [List.mem_cons, List.not_mem_nil, or_false] at ht
  rcases ht with rfl | rfl
  all_goals exact ⟨by kernel_rfl, of_decide_eq_true (by kernel_rfl)⟩

set_option maxRecDepth 100000 in
theorem cacheHits_contract (H : Type) (enc : TypeId × Value → H) (W : World) (base : Nat) (args : Array Value) (ds gs : List (DataW H)) (before : List MemPlace)
    (hval : ∀ (j : Nat) t v, Try.f7.params[j]? = some t → args[j]? = some v → Value.okWide Try.prog W .any base t v)
    (hW : DataW.Whole enc Try.prog Try.f7.params.toList Rows.cacheHitsSpec.vars false W args.toList ds gs before) :
    Calls Try.prog 7 args W fun e W' => ∃ v, e = .returned v ∧ Rows.cacheHitsSpec.post enc Try.prog Try.f7 false true false false W args v W' := by
  have hW' := hW
  obtain ⟨p, q, hA0, hV, he, hfz, hnd⟩ := hW
  have hA : DataW.TrodAll enc Try.prog W 0 (fun _ => true) true Try.f7.params.toList args.toList ds p := hA0
  rw [Try.params7] at hA hval
  obtain ⟨v0, vs0, d0, ds0, p0, q0, hargs, rfl, rfl, h0, r0⟩ := trodAll_cons hA
  obtain ⟨v1, vs1, d1, ds1, p1, q1, rfl, rfl, rfl, h1, r1⟩ := trodAll_cons r0
  obtain ⟨rfl, rfl, rfl⟩ := trodAll_nil r1
  obtain rfl : args = #[v0, v1] := by cases args; simp_all
  obtain ⟨s', rfl, rfl, rfl, ws⟩ := open_int Try.underlying5 (hval 0 5 v0 rfl rfl) h0
  have bs := bounds_u8 ws
  obtain ⟨s, rfl⟩ := Int.eq_ofNat_of_zero_le bs.1
  obtain ⟨lA, lLen, lCap, l, rfl, lRow, lL, lC, lM, lB⟩ := u8s_open Try.underlying44 Try.underlying5 cellsU8 (hval 1 44 v1 rfl rfl) h1
  refine (cacheHits_walk s lA lLen lCap l W lRow lL lC lM lB).mono fun e W' ⟨he', hm⟩ => ?_
  subst he'
  exact ⟨_, rfl, post_law laidOut (by rw [Try.params7]; exact readables_cacheHits) (by rfl) Try.underlying4 rfl rfl hW' hm.below⟩

set_option maxRecDepth 100000 in
theorem cacheHits_lifted (os : Os) (started : os.Started) (H : Type) (enc : TypeId × Value → H) :
    ReturnsInHanded {} Try.checked os 7 .any (Rows.cacheHitsSpec.pre6 enc Try.prog Try.f7 Rows.cacheHitsRow.domain false) (Rows.cacheHitsSpec.post enc Try.prog Try.f7 false true false false) := by
  refine returnsInHanded_of_change (C := Try.checked) own started (by kernel_rfl) Try.func7
    (ChangeSpec.witness6 (enc := enc) (C := Try.checked) false ⟨#[], #[.int .u8 0, .slice none 0 0], []⟩ 8 (by kernel_rfl) (by kernel_rfl) (by kernel_rfl) (by kernel_rfl)) ?_
  intro W base args ds gs before hval hW _ _
  exact cacheHits_contract H enc W base args ds gs before hval hW

/-- The law. -/
theorem cacheHits_said : Rows.CacheHitsSaid :=
  OpenClaim.holds_of_wide 7 Try.f7 rfl rfl rfl rfl rfl rfl rfl ⟨rfl, rfl, rfl, rfl, rfl⟩ rfl rfl rfl rfl rfl (by kernel_rfl) Try.func7 (by kernel_rfl)
    (of_decide_eq_true (by kernel_rfl)) (by unfold Func.isWrapper; first | (rw [if_pos (by decide +kernel)]; kernel_rfl) | (rw [if_neg (by decide +kernel)]; exact ⟨rfl, rfl⟩))
    (fun os started H enc _ => cacheHits_lifted os started H enc)
end Go.Proofs.Ytahaecieklfhkaa
