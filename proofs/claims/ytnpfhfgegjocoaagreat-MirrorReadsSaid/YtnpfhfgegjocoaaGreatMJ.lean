/- A law's map of what is known of blocks; the mirror beside it, devices gone or not. -/
import Derived.Test.YtnpfhfgegjocoaaGreatMI
import Derived.Test.YtnpfhfgegjocoaaGreatMG
/- The mirror with devices that are gone, plainly: no sector is bad, no block was moved. -/
namespace Go.Proofs.YtnpfhfgegjocoaaGreat

/-- A device that is there, or is gone. -/
def Lvd (B z n c : Nat) (D : Dev) (gone : Bool) : Prop := ∃ D0, DevQ D0 ∧ (∀ j, 4 ≤ j → D0.bad.getD j false = false) ∧ D0.size = z ∧ D0.sectors = B + 4 + n ∧ D0.cache.length ≤ c ∧ D = { D0 with gone := gone }
structure Lv (B z n c : Nat) (dead : Nat → Bool) (M : Mi) : Prop where
  dev : ∀ d, d < 2 → Lvd B z n c (M.P.dev d) (dead d)
  tab : Still B n M.P
  nn : M.P.n = n
  n32 : n ≤ 32
section
variable {B z n c : Nat} {dead : Nat → Bool} {M : Mi}
theorem Lvd.gone {D : Dev} {g : Bool} (h : Lvd B z n c D g) : D.gone = g := by obtain ⟨D0, _, _, _, _, _, rfl⟩ := h; rfl
theorem Lvd.live {D : Dev} (h : Lvd B z n c D false) : DevQ D ∧ (∀ j, 4 ≤ j → D.bad.getD j false = false) ∧ D.size = z ∧ D.sectors = B + 4 + n ∧ D.cache.length ≤ c := by
  obtain ⟨D0, h1, h2, h3, h4, h5, rfl⟩ := h
  have e : ({ D0 with gone := false } : Dev) = D0 := by
    have := h1.q.gone
    cases D0; simp_all
  rw [e]; exact ⟨h1, h2, h3, h4, h5⟩
theorem Lvd.of {D : Dev} (h1 : DevQ D) (h2 : ∀ j, 4 ≤ j → D.bad.getD j false = false) (h3 : D.size = z) (h4 : D.sectors = B + 4 + n) (h5 : D.cache.length ≤ c) : Lvd B z n c D false := by
  refine ⟨D, h1, h2, h3, h4, h5, ?_⟩
  have := h1.q.gone
  cases D; simp_all
theorem Lvd.kill {D : Dev} {g : Bool} (h : Lvd B z n c D g) : Lvd B z n c { D with gone := true } true := by
  obtain ⟨D0, h1, h2, h3, h4, h5, rfl⟩ := h
  exact ⟨D0, h1, h2, h3, h4, h5, rfl⟩
theorem Lvd.mono {D : Dev} {g : Bool} {c' : Nat} (h : Lvd B z n c D g) (hl : c ≤ c') : Lvd B z n c' D g := by
  obtain ⟨D0, h1, h2, h3, h4, h5, e⟩ := h
  exact ⟨D0, h1, h2, h3, h4, by omega, e⟩
theorem Lvd.on {D : Dev} {g : Bool} (h : Lvd B z n c D g) : D.On z c := by
  obtain ⟨D0, h1, h2, h3, h4, h5, rfl⟩ := h
  exact ⟨h1.q.off, h1.q.fuse, h3, h5⟩
theorem Lv.fine (h : Lv B z n c dead M) : Fine B z c M.P :=
  ⟨fun d hd => (h.dev d hd).on, fun s hs => by rw [h.tab s hs, h.nn], fun s hs => by rw [h.tab s hs]⟩
theorem Lv.none (h : Lv B z n c dead M) (o : Nat) : M.none o = if (dead 0 && dead 1) = true then 8 else o := by
  unfold Mi.none
  rw [(h.dev 0 (by decide)).gone, (h.dev 1 (by decide)).gone]
theorem Lv.mono {c' : Nat} (h : Lv B z n c dead M) (hl : c ≤ c') : Lv B z n c' dead M := ⟨fun d hd => (h.dev d hd).mono hl, h.tab, h.nn, h.n32⟩
theorem Lv.sector (h : Lv B z n c dead M) {s i : Nat} (hs : s < 2) (hi : i < B) : M.P.sector s (i : Int) = (i + 4, 0) := by
  unfold Pr.sector
  rw [h.tab s hs, Tab.at_in (by exact hi)]
  rfl
theorem Lv.read_dead (h : Lv B z n c dead M) {s i : Nat} (hs : s < 2) (hi : i < B) (hd : dead s = true) : M.P.read s (i : Int) = (⟨#[]⟩, 8) := by
  unfold Pr.read
  rw [h.sector hs hi]
  simp only [ne_eq, not_true_eq_false, if_false]
  exact ((h.dev s hs).on.read _).2 ((h.dev s hs).gone.trans hd)
theorem Lv.read_live (h : Lv B z n c dead M) {s i : Nat} (hs : s < 2) (hi : i < B) (hd : dead s = false) : M.P.read s (i : Int) = ((M.P.dev s).cur (i + 4), 0) := by
  have hl := h.dev s hs
  rw [hd] at hl
  obtain ⟨q, b, _, hsec, _⟩ := hl.live
  unfold Pr.read
  rw [h.sector hs hi]
  simp only [ne_eq, not_true_eq_false, if_false]
  unfold Dev.read
  rw [if_neg (by rw [q.q.ready]; simp), if_neg (by rw [Dev.isS_of (by omega)]; simp), Int.toNat_natCast, b _ (by omega)]
  simp
/-- A put on a side that is gone. -/
theorem Lv.put_dead (h : Lv B z n c dead M) {s i : Nat} (hs : s < 2) (hi : i < B) (hd : dead s = true) (x : ByteArray) : M.put s i x = (8, M) := by
  have hw := ((h.dev s hs).on.write ((i + 4 : Nat) : Int) x).2.2.2.2 ((h.dev s hs).gone.trans hd)
  unfold Mi.put Pr.write
  rw [h.sector hs hi]
  simp only [ne_eq, not_true_eq_false, if_false]
  rw [hw]
  simp only
  rw [if_pos (by simp), Pr.setDev_self]
  rfl
/-- A put on a side that is there. -/
theorem Lv.put_live (h : Lv B z n c dead M) {s i : Nat} (hs : s < 2) (hi : i < B) (hd : dead s = false) {x : ByteArray} (hx : x.size = z) :
    ∃ M', M.put s i x = (0, M') ∧ Lv B z n (c + 1) dead M' ∧ M'.reps = M.reps ∧ M'.P.read s (i : Int) = (x, 0) ∧ (∀ d j, d < 2 → j < B → (d ≠ s ∨ j ≠ i) → M'.P.read d (j : Int) = M.P.read d (j : Int)) := by
  have hl := h.dev s hs
  rw [hd] at hl
  obtain ⟨q, b, hz, hsec, hc⟩ := hl.live
  obtain ⟨D', e, q', sm, cu, cl⟩ := dwrite_inv q (k := i + 4) (by omega) (by omega) (b _ (by omega)) (x := x) (by rw [hx, hz])
  have hbad : D'.bad = (M.P.dev s).bad := by
    have := (hl.on.write ((i + 4 : Nat) : Int) x).2.2.1
    rw [e] at this; exact this
  have hput : M.put s i x = (0, { M with P := M.P.setDev s D', bl := remB M.bl (s, i) }) := by
    unfold Mi.put Pr.write
    rw [h.sector hs hi]
    simp only [ne_eq, not_true_eq_false, if_false]
    rw [e]
    simp
  have hdev : ∀ d, d < 2 → Lvd B z n (c + 1) ((M.P.setDev s D').dev d) (dead d) := fun d hd' => by
    show Lvd B z n (c + 1) (if d = s then D' else M.P.dev d) (dead d)
    by_cases ed : d = s
    · rw [if_pos ed, ed, hd]
      exact Lvd.of q' (fun j hj => by rw [hbad]; exact b j hj) (sm.size.trans hz) (sm.sectors.trans hsec) (by omega)
    · rw [if_neg ed]; exact (h.dev d hd').mono (by omega)
  have hlv : Lv B z n (c + 1) dead { M with P := M.P.setDev s D', bl := remB M.bl (s, i) } := ⟨hdev, h.tab, h.nn, h.n32⟩
  refine ⟨_, hput, hlv, rfl, ?_, fun d j hd' hj hne => ?_⟩
  · rw [hlv.read_live hs hi hd]
    show (((M.P.setDev s D').dev s).cur (i + 4), 0) = (x, 0)
    rw [Pr.setDev_at, cu]
  · cases hdd : dead d with
    | true => rw [hlv.read_dead hd' hj hdd, h.read_dead hd' hj hdd]
    | false =>
      rw [hlv.read_live hd' hj hdd, h.read_live hd' hj hdd]
      congr 1
      show (if d = s then D' else M.P.dev d).cur (j + 4) = _
      by_cases ed : d = s
      · rw [if_pos ed, ed]
        exact sm.cur (j + 4) (by omega) (by rcases hne with h1 | h1; exact absurd ed h1; omega)
      · rw [if_neg ed]
/-- A write. -/
theorem Lv.write (h : Lv B z n c dead M) {i : Nat} (hi : i < B) {x : ByteArray} (hx : x.size = z) :
    ∃ M', M.write i x = (if (dead 0 && dead 1) = true then 8 else 0, M') ∧ Lv B z n (c + 2) dead M' ∧ M'.reps = M.reps ∧ (∀ d, d < 2 → dead d = false → M'.P.read d (i : Int) = (x, 0)) ∧ (∀ d j, d < 2 → j < B → j ≠ i → M'.P.read d (j : Int) = M.P.read d (j : Int)) := by
  have step : ∀ (M : Mi) (c : Nat) (s : Nat), Lv B z n c dead M → s < 2 → ∃ k M', M.put s i x = (k, M') ∧ Lv B z n (c + 1) dead M' ∧ M'.reps = M.reps ∧ (dead s = true → k = 8) ∧ (dead s = false → k = 0 ∧ M'.P.read s (i : Int) = (x, 0)) ∧ (∀ d j, d < 2 → j < B → (d ≠ s ∨ j ≠ i) → M'.P.read d (j : Int) = M.P.read d (j : Int)) := by
    intro M c s h hs
    cases hd : dead s with
    | true => exact ⟨8, M, h.put_dead hs hi hd x, h.mono (by omega), rfl, fun _ => rfl, (fun e => by cases e), fun _ _ _ _ _ => rfl⟩
    | false =>
      obtain ⟨M', e, l, r, x1, o⟩ := h.put_live hs hi hd hx
      exact ⟨0, M', e, l, r, (fun e => by cases e), fun _ => ⟨rfl, x1⟩, o⟩
  obtain ⟨k0, M1, e1, l1, r1, a1, b1, o1⟩ := step M c 0 h (by decide)
  obtain ⟨k1, M2, e2, l2, r2, a2, b2, o2⟩ := step M1 (c + 1) 1 l1 (by decide)
  refine ⟨M2, ?_, l2, r2.trans r1, fun d hd hdd => ?_, fun d j hd hj hne => (o2 d j hd hj (.inr hne)).trans (o1 d j hd hj (.inr hne))⟩
  · unfold Mi.write
    simp only
    rw [e1]
    simp only
    rw [e2]
    simp only
    rw [l2.none]
    congr 1
    cases h0 : dead 0 with
    | true =>
      rw [a1 h0]
      cases h1 : dead 1 with
      | true => rw [a2 h1]; decide
      | false => rw [(b2 h1).1]; decide
    | false => rw [(b1 h0).1]; simp
  · rcases two_cases hd with rfl | rfl
    · exact (o2 0 i (by decide) hi (.inl (by decide))).trans (b1 hdd).2
    · exact (b2 hdd).2
/-- A flush. -/
theorem Lv.flush (h : Lv B z n c dead M) : ∃ M', M.flush = (if (dead 0 && dead 1) = true then 8 else 0, M') ∧ Lv B z n c dead M' ∧ M'.reps = M.reps ∧ (∀ d j, d < 2 → j < B → M'.P.read d (j : Int) = M.P.read d (j : Int)) := by
  have step : ∀ (M : Mi) (s : Nat), Lv B z n c dead M → s < 2 → Lv B z n c dead { M with P := (M.P.flush s).2 } ∧ ∀ d j, d < 2 → j < B → (M.P.flush s).2.read d (j : Int) = M.P.read d (j : Int) := by
    intro M s h hs
    cases hd : dead s with
    | true =>
      have hf := ((h.dev s hs).on.flush).2.2.2.2.1 ((h.dev s hs).gone.trans hd)
      have e : (M.P.flush s).2 = M.P := by unfold Pr.flush; rw [hf]; exact Pr.setDev_self M.P s
      rw [e]; exact ⟨h, fun _ _ _ _ => rfl⟩
    | false =>
      have hl := h.dev s hs
      rw [hd] at hl
      obtain ⟨q, b, hz, hsec, hc⟩ := hl.live
      obtain ⟨D', e, q', sm, cc⟩ := dflush_inv q
      have hbad : D'.bad = (M.P.dev s).bad := by
        have := (hl.on.flush).2.2.1
        rw [e] at this; exact this
      have e2 : (M.P.flush s).2 = M.P.setDev s D' := by unfold Pr.flush; rw [e]
      rw [e2]
      have hlv : Lv B z n c dead { M with P := M.P.setDev s D' } := ⟨fun d hd' => by
        show Lvd B z n c (if d = s then D' else M.P.dev d) (dead d)
        by_cases ed : d = s
        · rw [if_pos ed, ed, hd]
          exact Lvd.of q' (fun j hj => by rw [hbad]; exact b j hj) (sm.size.trans hz) (sm.sectors.trans hsec) (by rw [cc]; exact Nat.zero_le _)
        · rw [if_neg ed]; exact h.dev d hd', h.tab, h.nn, h.n32⟩
      refine ⟨hlv, fun d j hd' hj => ?_⟩
      cases hdd : dead d with
      | true =>
        have h1 := hlv.read_dead hd' hj hdd
        rw [h.read_dead hd' hj hdd]; exact h1
      | false =>
        have h1 := hlv.read_live hd' hj hdd
        rw [h.read_live hd' hj hdd]
        refine h1.trans ?_
        congr 1
        show (if d = s then D' else M.P.dev d).cur (j + 4) = _
        by_cases ed : d = s
        · rw [if_pos ed, ed]
          exact sm.cur (j + 4) (by omega) trivial
        · rw [if_neg ed]
  obtain ⟨l1, o1⟩ := step M 0 h (by decide)
  obtain ⟨l2, o2⟩ := step _ 1 l1 (by decide)
  refine ⟨_, ?_, l2, rfl, fun d j hd hj => (o2 d j hd hj).trans (o1 d j hd hj)⟩
  unfold Mi.flush
  simp only
  rw [l2.none]
/-- A device goes. -/
theorem Lv.kill (h : Lv B z n c dead M) (s : Nat) :
    Lv B z n c (fun d => if d = s then true else dead d) { M with P := M.P.setDev s { M.P.dev s with gone := true } } ∧ (∀ d j, d < 2 → j < B → d ≠ s → (M.P.setDev s { M.P.dev s with gone := true }).read d (j : Int) = M.P.read d (j : Int)) := by
  refine ⟨⟨fun d hd => ?_, h.tab, h.nn, h.n32⟩, fun d j hd hj hne => ?_⟩
  · show Lvd B z n c (if d = s then { M.P.dev s with gone := true } else M.P.dev d) (if d = s then true else dead d)
    by_cases e : d = s
    · rw [if_pos e, if_pos e]
      exact (h.dev s (by omega)).kill
    · rw [if_neg e, if_neg e]; exact h.dev d hd
  · unfold Pr.read
    have e1 : (M.P.setDev s { M.P.dev s with gone := true }).sector d (j : Int) = M.P.sector d (j : Int) := rfl
    rw [e1]
    show (if (M.P.sector d (j : Int)).2 ≠ 0 then _ else ((if d = s then { M.P.dev s with gone := true } else M.P.dev d)).read _) = _
    rw [if_neg hne]
/-- Read of a block whose live copies are whole. -/
theorem Lv.readL (h : Lv B z n c dead M) {q : PtrE} {i a g : Nat} {X t : ByteArray} (hI : ImgOf X q z a g t) (hi : i < B) (hr : ∀ d, d < 2 → dead d = false → M.P.read d (i : Int) = (X, 0)) :
    M.readM q i = M ∧ ((dead 0 && dead 1) = false → M.readV q i = (4, t, 0)) ∧ ((dead 0 && dead 1) = true → M.readV q i = (0, ⟨#[]⟩, 8) ∧ M.check q i = ((0, 8), M)) := by
  have hdead : ∀ s, s < 2 → dead s = true → M.has q s i = false := fun s hs hd => by
    unfold Mi.has
    rw [h.read_dead hs hi hd]; simp
  have hlive : ∀ s, s < 2 → dead s = false → M.has q s i = true := fun s hs hd => by
    rw [Mi.has_iff (hr s hs hd)]; exact hI.meets
  cases h0 : dead 0 with
  | false =>
    have hw : M.whole q i = (X, 0, 0) := by rw [Mi.whole_at (by decide) (fun k hk => by omega) (hlive 0 (by decide) h0), hr 0 (by decide) h0]
    exact ⟨by unfold Mi.readM; rw [hw]; simp, fun _ => Mi.readV_at hI hw, fun e => by simp at e⟩
  | true =>
    cases h1 : dead 1 with
    | false =>
      have hw : M.whole q i = (X, 1, 0) := by rw [Mi.whole_at (s := 1) (by decide) (fun k hk => by rw [show k = 0 by omega]; exact hdead 0 (by decide) h0) (hlive 1 (by decide) h1), hr 1 (by decide) h1]
      refine ⟨?_, fun _ => Mi.readV_at hI hw, fun e => by simp at e⟩
      unfold Mi.readM
      rw [hw]
      simp only
      unfold Mi.repair
      rw [if_pos trivial, if_pos ((h.dev 0 (by decide)).gone.trans h0)]
    | true =>
      have hw := Mi.whole_no (M := M) (q := q) (i := i) (fun k hk => by rcases two_cases hk with rfl | rfl; exact hdead 0 (by decide) h0; exact hdead 1 (by decide) h1)
      rw [h.none, h0, h1] at hw
      refine ⟨by unfold Mi.readM; rw [hw]; simp, fun e => by simp at e, fun _ => ⟨by unfold Mi.readV; rw [hw]; simp, by unfold Mi.check; rw [hw]; simp⟩⟩
end
end Go.Proofs.YtnpfhfgegjocoaaGreat
namespace Go.Proofs.YtnpfhfgegjocoaaGreat
open Go.RowKit

def kvI (a : Nat) : Value := .int .i64 (a : Nat)
theorem kvI_key (a : Nat) : MapKept.IsKey (.int .i64) (kvI a) := rfl
theorem kvI_inj (a c : Nat) (h : kvI a = kvI c) : a = c := by
  unfold kvI at h
  injection h with _ h
  omega
/-- What is known of each block: its pointer and its image. -/
def Kno := Nat → Option (PtrE × ByteArray)
def Kno.put (K : Kno) (i : Nat) (q : PtrE) (X : ByteArray) : Kno := fun a => if a = i then some (q, X) else K a
def knP (K : Kno) : Nat → Option Value := fun a => (K a).map fun y => ptrV y.1
theorem knP_put (K : Kno) (i : Nat) (q : PtrE) (X : ByteArray) : putF (knP K) i (ptrV q) = knP (K.put i q X) := by
  funext a
  unfold putF knP Kno.put
  by_cases h : a = i
  · rw [if_pos h, if_pos h]; rfl
  · rw [if_neg h, if_neg h]
/-- The law's state: the mirror, its sums, its devices' pointers, the map (Km), and what reads (Kr). -/
structure LoIn (W w : World) (F : List Nat) (x : Nat → Nat) (b p db tk bk : Nat) (dead : Nat → Bool) (M : Mi) (t : ByteArray) (Km Kr : Kno) (j : Nat) : Prop where
  own : OwnM W F w b p x M
  lv : Lv 14 128 6 (2 * j) dead M
  reps : M.reps = 0
  sum : Blk w tk 172 sumRow
  dv : Blk w db 50 [.pointer (some ⟨x 0, 0, none⟩), .pointer (some ⟨x 1, 0, none⟩)]
  map : ∃ n, MapK kvI w bk (knP Km) n
  known : ∀ i q X, Kr i = some (q, X) → i < 14 ∧ (∃ g, ImgOf X q 128 i g t) ∧ ∀ d, d < 2 → dead d = false → M.P.read d (i : Int) = (X, 0)
  mem : db ∈ F ∧ tk ∈ F ∧ bk ∈ F
  bl : W.heap.size ≤ bk
section
variable {W w w' : World} {F : List Nat} {x : Nat → Nat} {b p db tk bk : Nat} {dead dead' : Nat → Bool} {M M' : Mi} {t : ByteArray} {Km Kr Kr' : Kno} {j j' : Nat}
theorem LoIn.to (h : LoIn W w F x b p db tk bk dead M t Km Kr j) (ho : OwnM W F w' b p x M') (hm : Minds F w w') (hl : Lv 14 128 6 (2 * j') dead' M') (hr : M'.reps = 0) (hk : ∀ i q X, Kr' i = some (q, X) → i < 14 ∧ (∃ g, ImgOf X q 128 i g t) ∧ ∀ d, d < 2 → dead' d = false → M'.P.read d (i : Int) = (X, 0)) :
    LoIn W w' F x b p db tk bk dead' M' t Km Kr' j' :=
  ⟨ho, hl, hr, hm.blk h.sum h.mem.2.1, hm.blk h.dv h.mem.1, h.map.elim fun n hn => ⟨n, hm.map hn h.mem.2.2⟩, hk, h.mem, h.bl⟩
theorem LoIn.still (h : LoIn W w F x b p db tk bk dead M t Km Kr j) (hm : Mods [] w w') : LoIn W w' F x b p db tk bk dead M t Km Kr j :=
  h.to (h.own.still hm) (Minds.of hm) h.lv h.reps h.known
theorem loWrite (h : LoIn W w F x b p db tk bk dead M t Km Kr j) (hj : j ≤ 1000) {i g : Nat} (hi : i < 14) {q : PtrE} {X : ByteArray} (hI : ImgOf X q 128 i g t) :
    Calls Tryz.prog 29 #[.pointer (some ⟨b, 0, none⟩), .int .i64 (i : Nat), .string X] w fun e w' => ∃ M', e = .returned (.int .i64 ((if (dead 0 && dead 1) = true then 8 else 0 : Nat) : Nat)) ∧ Hid (LoIn W w' F x b p db tk bk dead M' t Km (Kr.put i q X) (j + 1)) ∧ Hid (Minds F w w') := by
  obtain ⟨M', e1, l1, r1, x1, o1⟩ := h.lv.write hi (x := X) hI.size
  refine (oWrite h.own h.lv.fine (by omega) hi hI.size).mono fun e w' ⟨h1, h2, h3⟩ => ⟨M', ?_, ?_, h3⟩
  · rw [h1, e1]
  · rw [e1] at h2
    refine Lib.hid (h.to h2.out h3.out (by rw [show 2 * (j + 1) = 2 * j + 2 by omega]; exact l1) (r1.trans h.reps) (fun a qa Xa ha => ?_))
    unfold Kno.put at ha
    split at ha
    · rename_i e
      subst e
      injection ha with ha
      injection ha with ha1 ha2
      subst ha1; subst ha2
      exact ⟨hi, ⟨g, hI⟩, x1⟩
    · rename_i hne
      obtain ⟨k1, k2, k3⟩ := h.known a qa Xa ha
      exact ⟨k1, k2, fun d hd hdd => (o1 d a hd k1 hne).trans (k3 d hd hdd)⟩
/-- .. where both devices are gone. -/
theorem loWriteD (h : LoIn W w F x b p db tk bk dead M t Km Kr j) (hj : j ≤ 1000) {i : Nat} (hi : i < 14) {X : ByteArray} (hX : X.size = 128) (hd : dead 0 = true ∧ dead 1 = true) :
    Calls Tryz.prog 29 #[.pointer (some ⟨b, 0, none⟩), .int .i64 (i : Nat), .string X] w fun e w' => ∃ M', e = .returned (.int .i64 8) ∧ Hid (LoIn W w' F x b p db tk bk dead M' t Km Kr (j + 1)) := by
  obtain ⟨M', e1, l1, r1, x1, o1⟩ := h.lv.write hi (x := X) hX
  refine (oWrite h.own h.lv.fine (by omega) hi hX).mono fun e w' ⟨h1, h2, h3⟩ => ⟨M', ?_, ?_⟩
  · rw [h1, e1, hd.1, hd.2]; rfl
  · rw [e1] at h2
    refine Lib.hid (h.to h2.out h3.out (by rw [show 2 * (j + 1) = 2 * j + 2 by omega]; exact l1) (r1.trans h.reps) (fun a qa Xa ha => ?_))
    obtain ⟨k1, k2, k3⟩ := h.known a qa Xa ha
    refine ⟨k1, k2, fun d hd' hdd => ?_⟩
    rcases two_cases hd' with rfl | rfl
    · rw [hd.1] at hdd; cases hdd
    · rw [hd.2] at hdd; cases hdd
theorem loFlush (h : LoIn W w F x b p db tk bk dead M t Km Kr j) (hj : j ≤ 1000) :
    Calls Tryz.prog 30 #[.pointer (some ⟨b, 0, none⟩)] w fun e w' => ∃ M', e = .returned (.int .i64 ((if (dead 0 && dead 1) = true then 8 else 0 : Nat) : Nat)) ∧ Hid (LoIn W w' F x b p db tk bk dead M' t Km Kr j) ∧ Hid (Minds F w w') := by
  obtain ⟨M', e1, l1, r1, o1⟩ := h.lv.flush
  refine (oFlush h.own h.lv.fine (by omega)).mono fun e w' ⟨h1, h2, h3⟩ => ⟨M', ?_, ?_, h3⟩
  · rw [h1, e1]
  · rw [e1] at h2
    exact Lib.hid (h.to h2.out h3.out l1 (r1.trans h.reps) (fun a qa Xa ha => by
      obtain ⟨k1, k2, k3⟩ := h.known a qa Xa ha
      exact ⟨k1, k2, fun d hd hdd => (o1 d a hd k1).trans (k3 d hd hdd)⟩))
theorem loKill (h : LoIn W w F x b p db tk bk dead M t Km Kr j) {s : Nat} (hs : s < 2) :
    Calls Tryz.prog 40 #[.pointer (some ⟨x s, 0, none⟩)] w fun e w' => ∃ M', e = .returned (.tuple #[]) ∧ Hid (LoIn W w' F x b p db tk bk (fun d => if d = s then true else dead d) M' t Km Kr j) := by
  obtain ⟨l1, o1⟩ := h.lv.kill s
  refine (oKill h.own hs).mono fun e w' ⟨h1, h2, h3⟩ => ⟨_, h1, Lib.hid (h.to h2.out h3.out l1 h.reps (fun a qa Xa ha => ?_))⟩
  obtain ⟨k1, k2, k3⟩ := h.known a qa Xa ha
  refine ⟨k1, k2, fun d hd hdd => ?_⟩
  by_cases e : d = s
  · rw [if_pos e] at hdd; cases hdd
  · rw [if_neg e] at hdd
    exact (o1 d a hd k1 e).trans (k3 d hd hdd)
theorem loStore {i : Nat} {q : PtrE} {X : ByteArray} (h : LoIn W w F x b p db tk bk dead M t Km (Kr.put i q X) j) (hK : Kr = Km) (hne : bk ≠ tk ∧ bk ≠ db) :
    ∃ w1, (Instr.mapUpdate 79 (.map (some bk)) (.int .i64 (i : Nat)) (ptrV q)).run Tryz.prog w = .ok () w1 ∧ Hid (LoIn W w1 F x b p db tk bk dead M t (Km.put i q X) (Km.put i q X) j) := by
  subst hK
  obtain ⟨n, hn⟩ := h.map
  obtain ⟨w1, h1, h2, h3, _⟩ := hn.update (P := Tryz.prog) (T := 79) (K := 3) (E := 58) (d := .int .i64) kvI_key kvI_inj Tryz.underlying79 Tryz.underlying3 i (ptrV q)
  rw [knP_put (X := X)] at h2
  refine ⟨w1, h1, Lib.hid ⟨h.own.aside h3 (fun k hk => by rw [List.mem_singleton.1 hk]; exact ⟨h.mem.2.2, h.bl⟩), h.lv, h.reps, h.sum.keep h3 (by simpa using fun e => hne.1 e.symm), h.dv.keep h3 (by simpa using fun e => hne.2 e.symm), ⟨_, h2⟩, h.known, h.mem, h.bl⟩⟩
theorem loDegr (h : LoIn W w F x b p db tk bk dead M t Km Kr j) : Calls Tryz.prog 41 #[.pointer (some ⟨b, 0, none⟩)] w fun e w' => e = .returned (.bool (dead 0 || dead 1)) ∧ w = w' := by
  have := oDegr h.own
  rw [(h.lv.dev 0 (by decide)).gone, (h.lv.dev 1 (by decide)).gone] at this
  exact this
/-- Read of a known block. -/
theorem loRead (h : LoIn W w F x b p db tk bk dead M t Km Kr j) (hj : j ≤ 1000) {i : Nat} {q : PtrE} {X : ByteArray} (hk : Kr i = some (q, X)) :
    Calls Tryz.prog 34 #[.pointer (some ⟨b, 0, none⟩), ptrV q] w fun e w' => ∃ k : Nat, e = .returned (.tuple #[.int .u8 (k : Nat), .string (if (dead 0 && dead 1) = true then ⟨#[]⟩ else t), .int .i64 ((if (dead 0 && dead 1) = true then 8 else 0 : Nat) : Nat)]) ∧ Hid (LoIn W w' F x b p db tk bk dead M t Km Kr j) ∧ Hid (Minds F w w') := by
  obtain ⟨k1, ⟨g, hI⟩, k3⟩ := h.known i q X hk
  obtain ⟨r1, r2, r3⟩ := h.lv.readL hI k1 k3
  refine (oRead h.own h.lv.fine (by omega) (by rw [h.reps]; decide) q k1 hI.addr).mono fun e w' ⟨h1, h2, h3⟩ => ?_
  rw [r1] at h2
  have hL := h.to h2.out h3.out h.lv h.reps h.known
  cases hd : (dead 0 && dead 1) with
  | true =>
    rw [(r3 hd).1] at h1
    exact ⟨0, by rw [h1]; rfl, Lib.hid hL, h3⟩
  | false =>
    rw [r2 hd] at h1
    exact ⟨4, by rw [h1]; rfl, Lib.hid hL, h3⟩
/-- Check of a known block, both devices gone. -/
theorem loChk (h : LoIn W w F x b p db tk bk dead M t Km Kr j) (hj : j ≤ 1000) {i : Nat} {q : PtrE} {X : ByteArray} (hk : Kr i = some (q, X)) (hd : (dead 0 && dead 1) = true) :
    Calls Tryz.prog 39 #[.pointer (some ⟨b, 0, none⟩), ptrV q] w fun e w' => e = .returned (.tuple #[.int .i64 0, .int .i64 8]) ∧ Hid (LoIn W w' F x b p db tk bk dead M t Km Kr j) ∧ Hid (Minds F w w') := by
  obtain ⟨k1, ⟨g, hI⟩, k3⟩ := h.known i q X hk
  obtain ⟨r1, r2, r3⟩ := h.lv.readL hI k1 k3
  refine (oChk h.own h.lv.fine (by omega) (by rw [h.reps]; decide) q k1 hI.addr).mono fun e w' ⟨h1, h2, h3⟩ => ?_
  rw [(r3 hd).2] at h1 h2
  exact ⟨h1, Lib.hid (h.to h2.out h3.out h.lv h.reps h.known), h3⟩
/-- A new block is minded, too. -/
theorem LoIn.protect {g : Nat} (h : LoIn W w F x b p db tk bk dead M t Km Kr j) (hm : Mods [] w w') (hg : w.heap.size ≤ g) (hg' : g < w'.heap.size) : LoIn W w' (g :: F) x b p db tk bk dead M t Km Kr j := by
  have hs := h.still hm
  exact ⟨h.own.protect hm (fun k hk => by
    rcases List.mem_cons.1 hk with rfl | hk
    · exact .inr ⟨hg, hg'⟩
    · exact .inl hk), hs.lv, hs.reps, hs.sum, hs.dv, hs.map, hs.known, ⟨List.mem_cons_of_mem _ h.mem.1, List.mem_cons_of_mem _ h.mem.2.1, List.mem_cons_of_mem _ h.mem.2.2⟩, h.bl⟩
theorem LoIn.less {g : Nat} (h : LoIn W w (g :: F) x b p db tk bk dead M t Km Kr j) (hF : db ∈ F ∧ tk ∈ F ∧ bk ∈ F) : LoIn W w F x b p db tk bk dead M t Km Kr j :=
  ⟨h.own.fewer (fun _k hk => List.mem_cons_of_mem _ hk), h.lv, h.reps, h.sum, h.dv, h.map, h.known, hF, h.bl⟩
/-- How many entries a range has to come, by the world. -/
def leftI (w : World) (r b : Nat) : Nat := match w.heap[r]?, w.heap[b]? with
  | some (.mapIter _ _ seen _), some (.map es _) => (leftOf es seen).size
  | _, _ => 0
theorem RangeK.leftI {κ : Type} {kv : κ → Value} {w : World} {r b : Nat} {F : κ → Option Value} {D : κ → Prop} {left : Nat} (h : RangeK kv w r b F D left) : leftI w r b = left := by
  obtain ⟨es, clock, since, seen, c0, h1, h2, h3, h4, h5, h6, h7, h8, h9, h10⟩ := h
  unfold Go.Proofs.YtnpfhfgegjocoaaGreat.leftI
  rw [h1, h5]; exact h10
/-- Ranging over what is known. -/
structure LrIn (W w : World) (F : List Nat) (x : Nat → Nat) (b p db tk bk r : Nat) (dead : Nat → Bool) (M : Mi) (t : ByteArray) (K : Kno) (j left : Nat) : Prop where
  lo : LoIn W w (r :: F) x b p db tk bk dead M t K K j
  rng : ∃ D, RangeK kvI w r bk (knP K) D left
  ne : r ≠ bk ∧ r ≠ tk ∧ r ≠ db
  rl : W.heap.size ≤ r
theorem LrIn.to {r left : Nat} (h : LrIn W w F x b p db tk bk r dead M t Km j left) (hl : LoIn W w' (r :: F) x b p db tk bk dead M' t Km Km j') (hm : Minds (r :: F) w w') : LrIn W w' F x b p db tk bk r dead M' t Km j' left := by
  refine ⟨hl, h.rng.elim fun D hD => ⟨D, ?_⟩, h.ne, h.rl⟩
  obtain ⟨L, h1, h2⟩ := hm
  exact hD.keep h1 (fun hx => h2 r hx (by simp)) (fun hx => h2 bk hx (List.mem_cons_of_mem _ (by rcases List.mem_cons.1 h.lo.mem.2.2 with e | e; exact absurd e.symm h.ne.1; exact e)))
theorem LrIn.still {r left : Nat} (h : LrIn W w F x b p db tk bk r dead M t Km j left) (hm : Mods [] w w') : LrIn W w' F x b p db tk bk r dead M t Km j left := h.to (h.lo.still hm) (Minds.of hm)
theorem loRange (h : LoIn W w F x b p db tk bk dead M t Km Km j) :
    ∃ w1 left, (Instr.range 79 (.map (some bk))).run Tryz.prog w = .ok (.pointer (some ⟨w.heap.size, 0, none⟩)) w1 ∧ Hid (LrIn W w1 F x b p db tk bk w.heap.size dead M t Km j left) := by
  obtain ⟨n, hn⟩ := h.map
  obtain ⟨w1, h1, h2, h3, h4⟩ := hn.range (P := Tryz.prog) Tryz.underlying79
  have hlt : ∀ g ∈ F, g < w.heap.size := h.own.lt
  have hs := h.still h3
  have ho : OwnM W (w.heap.size :: F) w1 b p x M := h.own.protect h3 (fun g hg => by
    rcases List.mem_cons.1 hg with rfl | hg
    · exact .inr ⟨Nat.le_refl _, by omega⟩
    · exact .inl hg)
  refine ⟨w1, n, h1, Lib.hid ⟨⟨ho, hs.lv, hs.reps, hs.sum, hs.dv, hs.map, hs.known, ⟨List.mem_cons_of_mem _ h.mem.1, List.mem_cons_of_mem _ h.mem.2.1, List.mem_cons_of_mem _ h.mem.2.2⟩, h.bl⟩, ⟨_, h2⟩, ⟨?_, ?_, ?_⟩, h.own.mods.size⟩⟩
  · have := hlt bk h.mem.2.2; omega
  · have := hlt tk h.mem.2.1; omega
  · have := hlt db h.mem.1; omega
theorem LrIn.next {r left : Nat} (h : LrIn W w F x b p db tk bk r dead M t Km j left) :
    (left = 0 ∧ ∀ ty, (Instr.next (.pointer (some ⟨r, 0, none⟩)) false ty).run Tryz.prog w = .ok (.tuple #[.bool false]) w) ∨
    ∃ (i : Nat) (q : PtrE) (X : ByteArray) (w1 : World) (left1 : Nat), Km i = some (q, X) ∧ (∀ ty, (Instr.next (.pointer (some ⟨r, 0, none⟩)) false ty).run Tryz.prog w = .ok (.tuple #[.bool true, .int .i64 (i : Nat), ptrV q]) w1) ∧
      (Instr.entry (.pointer (some ⟨r, 0, none⟩))).run Tryz.prog w1 = .ok (.tuple #[.int .i64 (i : Nat), ptrV q]) w1 ∧ Hid (LrIn W w1 F x b p db tk bk r dead M t Km j left1) ∧ left1 < left := by
  obtain ⟨D, hD⟩ := h.rng
  rcases hD.next (P := Tryz.prog) kvI_inj h.ne.1 0 with ⟨h1, _, h2⟩ | ⟨a, v, w1, left1, hv, _, hrun, hent, hR1, hl, hm1, _⟩
  · exact .inl ⟨h1, fun _ => h2⟩
  · unfold knP at hv
    cases hk : Km a with
    | none => rw [hk] at hv; cases hv
    | some y =>
      obtain ⟨q, X⟩ := y
      rw [hk] at hv
      injection hv with hv
      subst hv
      have hlo := h.lo
      have hmem : ∀ k ∈ [r], k ∈ r :: F ∧ W.heap.size ≤ k := fun k hk => by rw [List.mem_singleton.1 hk]; exact ⟨by simp, h.rl⟩
      refine .inr ⟨a, q, X, w1, left1, hk, fun _ => hrun, hent, Lib.hid ⟨⟨hlo.own.aside hm1 hmem, hlo.lv, hlo.reps, hlo.sum.keep hm1 (by simpa using fun e => h.ne.2.1 e.symm), hlo.dv.keep hm1 (by simpa using fun e => h.ne.2.2 e.symm), hlo.map.elim fun n hn => ⟨n, hn.keep hm1 (by simpa using fun e => h.ne.1 e.symm)⟩, hlo.known, hlo.mem, hlo.bl⟩, ⟨_, hR1⟩, h.ne, h.rl⟩, hl⟩
theorem LrIn.done {r left : Nat} (h : LrIn W w F x b p db tk bk r dead M t Km j left) (hF : db ∈ F ∧ tk ∈ F ∧ bk ∈ F) : LoIn W w F x b p db tk bk dead M t Km Km j :=
  ⟨h.lo.own.fewer (fun _g hg => List.mem_cons_of_mem _ hg), h.lo.lv, h.lo.reps, h.lo.sum, h.lo.dv, h.lo.map, h.lo.known, hF, h.lo.bl⟩
end
/-- One device is gone, or none. -/
def dkf (s : Nat) (f : Bool) : Nat → Bool := fun d => decide (d = s) && f
theorem dkf_and {s : Nat} (f : Bool) : (dkf s f 0 && dkf s f 1) = false := by
  unfold dkf
  by_cases h : s = 0
  · subst h; simp
  · have : ¬ 0 = s := fun e => h e.symm
    simp [this]
theorem dkf_or {s : Nat} (hs : s < 2) (f : Bool) : (dkf s f 0 || dkf s f 1) = f := by
  unfold dkf
  rcases two_cases hs with rfl | rfl <;> simp
theorem dkf_kill (s : Nat) : (fun d => if d = s then true else dkf s false d) = dkf s true := by
  funext d
  unfold dkf
  by_cases h : d = s <;> simp [h]
theorem Gfresh.lv {B z n : Nat} {M : Mi} (h : Gfresh B z n M) (s : Nat) : Lv B z n 0 (dkf s false) M := by
  have hsec := h.gm.pi.inv.sectors
  have hb := (h.gm.pi.slots 0 (by decide)).blocks
  rw [h.gm.blocks 0 (by decide)] at hb
  rw [← hb, h.gm.nn] at hsec
  refine ⟨fun d hd => ?_, h.tab, h.gm.nn, by have := h.gm.n_le; rw [h.gm.nn] at this; exact this⟩
  have e : dkf s false d = false := by unfold dkf; simp
  rw [e]
  exact Lvd.of (h.gm.pi.inv.dev d hd) (h.sound d hd) ((h.gm.pi.inv.same d hd).1.trans h.gm.size) ((h.gm.pi.inv.same d hd).2.trans hsec.symm) (h.gm.few d hd)
end Go.Proofs.YtnpfhfgegjocoaaGreat
