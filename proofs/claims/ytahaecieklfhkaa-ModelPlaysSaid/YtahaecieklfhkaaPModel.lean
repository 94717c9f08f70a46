/- The plain law of the model: keys and values by rising keys, what an update makes of them. No program is named here. -/
import Derived.Test.YtahaecieklfhkaaMapBase
import Derived.Lib.Strings
import Derived.Laws.Bits64b
namespace Go.Proofs.Ytahaecieklfhkaa

theorem bytes_eq : ∀ (x y : List UInt8), Op.bytesLess x y = decide (x < y)
  | [], [] => by simp [Op.bytesLess]
  | _ :: _, [] => by simp [Op.bytesLess]
  | [], _ :: _ => by simp [Op.bytesLess]
  | a :: x, b :: y => by
    rw [Op.bytesLess, bytes_eq x y]
    simp only [List.cons_lt_cons_iff]
    by_cases h1 : a < b <;> by_cases h2 : a = b <;> by_cases h3 : x < y <;> simp [h1, h2, h3]
/-- Go's '<' on strings. -/
def blt (a b : ByteArray) : Bool := Op.bytesLess a.toList b.toList
theorem blt_iff {a b : ByteArray} : blt a b = true ↔ a.toList < b.toList := by unfold blt; rw [bytes_eq]; simp
theorem blt_irrefl (a : ByteArray) : blt a a = false := by
  cases h : blt a a with
  | false => rfl
  | true => exact absurd (blt_iff.1 h) (List.lt_irrefl _)
theorem blt_trans {a b c : ByteArray} (h : blt a b = true) (g : blt b c = true) : blt a c = true := blt_iff.2 (List.lt_trans (blt_iff.1 h) (blt_iff.1 g))
theorem blt_asymm {a b : ByteArray} (h : blt a b = true) : blt b a = false := by
  cases g : blt b a with
  | false => rfl
  | true => exact absurd (blt_trans h g) (by rw [blt_irrefl]; simp)
theorem toList_inj {a b : ByteArray} (h : a.toList = b.toList) : a = b := by
  rw [Lib.toList_data, Lib.toList_data] at h
  cases a; cases b
  simp only [Array.toList_inj] at h
  rw [h]
theorem blt_tri (a b : ByteArray) : blt a b = true ∨ a = b ∨ blt b a = true := by
  by_cases h1 : a.toList < b.toList
  · exact .inl (blt_iff.2 h1)
  · by_cases h2 : b.toList < a.toList
    · exact .inr (.inr (blt_iff.2 h2))
    · exact .inr (.inl (toList_inj (List.le_antisymm (List.not_lt.1 h2) (List.not_lt.1 h1))))
theorem blt_ne {a b : ByteArray} (h : blt a b = true) : a ≠ b := fun e => by rw [e, blt_irrefl] at h; cases h

abbrev Ents := List (ByteArray × ByteArray)
def Rising (E : Ents) : Prop := E.Pairwise fun a b => blt a.1 b.1 = true
def getE (E : Ents) (k : ByteArray) : Option ByteArray := (E.find? fun e => decide (e.1 = k)).map (·.2)
def insE (E : Ents) (k v : ByteArray) : Ents := (E.filter fun e => blt e.1 k) ++ (k, v) :: E.filter fun e => blt k e.1
def delE (E : Ents) (k : ByteArray) : Ents := E.filter fun e => decide (e.1 ≠ k)
theorem Rising.nodup {E : Ents} (h : Rising E) : (E.map (·.1)).Nodup := by
  unfold List.Nodup
  rw [List.pairwise_map]
  exact h.imp fun hab => blt_ne hab
theorem Rising.uniq {E : Ents} (h : Rising E) {a b : ByteArray × ByteArray} (ha : a ∈ E) (hb : b ∈ E) (hk : a.1 = b.1) : a = b := by
  induction E with
  | nil => cases ha
  | cons x E ih =>
    have h1 := List.pairwise_cons.1 h
    rcases List.mem_cons.1 ha with ea | ha2
    · rcases List.mem_cons.1 hb with eb | hb2
      · rw [ea, eb]
      · exact absurd (by rw [← ea]; exact hk) (blt_ne (h1.1 _ hb2))
    · rcases List.mem_cons.1 hb with eb | hb2
      · exact absurd (by rw [← eb]; exact hk.symm) (blt_ne (h1.1 _ ha2))
      · exact ih h1.2 ha2 hb2
theorem getE_iff {E : Ents} (h : Rising E) {k v : ByteArray} : getE E k = some v ↔ (k, v) ∈ E := by
  unfold getE
  constructor
  · intro hg
    obtain ⟨e, he, rfl⟩ := Option.map_eq_some_iff.1 hg
    have h1 := List.find?_some he
    have h2 := List.mem_of_find?_eq_some he
    simp only [decide_eq_true_eq] at h1
    rw [← h1]; exact h2
  · intro hm
    cases hf : E.find? (fun e => decide (e.1 = k)) with
    | none => have := List.find?_eq_none.1 hf _ hm; simp at this
    | some e =>
      have h1 := List.find?_some hf
      simp only [decide_eq_true_eq] at h1
      have := h.uniq (List.mem_of_find?_eq_some hf) hm h1
      rw [this]; rfl
theorem getE_ext {E D : Ents} (hE : Rising E) {k : ByteArray} {o : Option ByteArray} (h : ∀ v, (k, v) ∈ E ↔ o = some v) (_ : D = D) : getE E k = o := by
  apply Option.ext
  intro v
  rw [getE_iff hE]; exact h v
theorem ins_mem {E : Ents} {k v : ByteArray} {e : ByteArray × ByteArray} : e ∈ insE E k v ↔ (e = (k, v) ∨ e ∈ E ∧ e.1 ≠ k) := by
  unfold insE
  rw [List.mem_append, List.mem_cons, List.mem_filter, List.mem_filter]
  constructor
  · rintro (⟨h, h1⟩ | h | ⟨h, h1⟩)
    · exact .inr ⟨h, blt_ne h1⟩
    · exact .inl h
    · exact .inr ⟨h, (blt_ne h1).symm⟩
  · rintro (h | ⟨h, h1⟩)
    · exact .inr (.inl h)
    · rcases blt_tri e.1 k with h2 | h2 | h2
      · exact .inl ⟨h, h2⟩
      · exact absurd h2 h1
      · exact .inr (.inr ⟨h, h2⟩)
theorem del_mem {E : Ents} {k : ByteArray} {e : ByteArray × ByteArray} : e ∈ delE E k ↔ (e ∈ E ∧ e.1 ≠ k) := by
  unfold delE
  rw [List.mem_filter]; simp
theorem ins_rising {E : Ents} (h : Rising E) (k v : ByteArray) : Rising (insE E k v) := by
  unfold insE Rising
  rw [List.pairwise_append, List.pairwise_cons]
  refine ⟨h.filter _, ⟨fun e he => (List.mem_filter.1 he).2, h.filter _⟩, fun a ha b hb => ?_⟩
  have h1 := (List.mem_filter.1 ha).2
  rcases List.mem_cons.1 hb with rfl | hb
  · exact h1
  · exact blt_trans h1 (List.mem_filter.1 hb).2
theorem del_rising {E : Ents} (h : Rising E) (k : ByteArray) : Rising (delE E k) := List.Pairwise.filter _ h
theorem get_ins {E : Ents} (h : Rising E) (k v c : ByteArray) : getE (insE E k v) c = if c = k then some v else getE E c := by
  apply getE_ext (D := E) (ins_rising h k v) (fun u => ?_) rfl
  rw [ins_mem]
  by_cases hc : c = k
  · subst hc
    simp only [if_true]
    constructor
    · rintro (e | ⟨_, e⟩)
      · injection e with _ e; rw [e]
      · exact absurd rfl e
    · intro e; injection e with e; exact .inl (by rw [e])
  · rw [if_neg hc, getE_iff h]
    constructor
    · rintro (e | ⟨e, _⟩)
      · injection e with e _; exact absurd e hc
      · exact e
    · intro e; exact .inr ⟨e, hc⟩
theorem get_del {E : Ents} (h : Rising E) (k c : ByteArray) : getE (delE E k) c = if c = k then none else getE E c := by
  apply getE_ext (D := E) (del_rising h k) (fun u => ?_) rfl
  rw [del_mem]
  by_cases hc : c = k
  · subst hc
    simp
  · rw [if_neg hc, getE_iff h]
    exact ⟨fun e => e.1, fun e => ⟨e, hc⟩⟩
theorem filter_len {α : Type} (p : α → Bool) (l : List α) : (l.filter p).length + (l.filter fun x => !p x).length = l.length := by
  induction l with
  | nil => rfl
  | cons x l ih => cases h : p x <;> simp [h] <;> omega
theorem del_length {E : Ents} (h : Rising E) (k : ByteArray) : (delE E k).length = if (getE E k).isSome then E.length - 1 else E.length := by
  have h1 := filter_len (fun e : ByteArray × ByteArray => decide (e.1 ≠ k)) E
  have hd : delE E k = E.filter fun e => decide (e.1 ≠ k) := rfl
  rw [← hd] at h1
  cases hg : getE E k with
  | none =>
    have : (E.filter fun e => !decide (e.1 ≠ k)) = [] := by
      rw [List.filter_eq_nil_iff]
      intro e he hk
      have hk : e.1 = k := by simpa using hk
      have := (getE_iff h (k := k) (v := e.2)).2 (by rw [← hk]; exact he)
      rw [hg] at this; cases this
    rw [this] at h1
    simp at h1 ⊢; exact h1
  | some v =>
    have hm := (getE_iff h).1 hg
    have : (E.filter fun e => !decide (e.1 ≠ k)) = [(k, v)] := by
      have hn : (E.filter fun e => !decide (e.1 ≠ k)).Pairwise fun a b => blt a.1 b.1 = true := List.Pairwise.filter _ h
      have ha : ∀ e ∈ (E.filter fun e => !decide (e.1 ≠ k)), e = (k, v) := by
        intro e he
        have he2 := List.mem_filter.1 he
        have hk : e.1 = k := by simpa using he2.2
        exact h.uniq he2.1 hm hk
      have hin : (k, v) ∈ (E.filter fun e => !decide (e.1 ≠ k)) := List.mem_filter.2 ⟨hm, by simp⟩
      generalize (E.filter fun e => !decide (e.1 ≠ k)) = l at *
      match l, hn, ha, hin with
      | [], _, _, hin => cases hin
      | [x], _, ha, _ => rw [ha x (by simp)]
      | x :: y :: l, hn, ha, _ =>
        have h2 := (List.pairwise_cons.1 hn).1 y (by simp)
        rw [ha x (by simp), ha y (by simp), blt_irrefl] at h2
        cases h2
    rw [this] at h1
    simp at h1 ⊢; omega
theorem ins_length {E : Ents} (h : Rising E) (k v : ByteArray) : (insE E k v).length = if (getE E k).isSome then E.length else E.length + 1 := by
  have h1 : (insE E k v).length = (delE E k).length + 1 := by
    unfold insE
    rw [List.length_append, List.length_cons]
    have h2 := filter_len (fun e : ByteArray × ByteArray => blt e.1 k) (delE E k)
    have e1 : (delE E k).filter (fun e => blt e.1 k) = E.filter (fun e => blt e.1 k) := by
      unfold delE
      rw [List.filter_filter]
      apply List.filter_congr
      intro e _
      cases hb : blt e.1 k with
      | false => simp
      | true => simp [blt_ne hb]
    have e2 : (delE E k).filter (fun e => !blt e.1 k) = E.filter (fun e => blt k e.1) := by
      unfold delE
      rw [List.filter_filter]
      apply List.filter_congr
      intro e _
      rcases blt_tri e.1 k with hb | hb | hb
      · rw [hb, blt_asymm hb]; simp
      · rw [hb, blt_irrefl]; simp
      · rw [hb, blt_asymm hb]; simp [(blt_ne hb).symm]
    rw [e1, e2] at h2
    omega
  rw [h1, del_length h]
  cases hg : getE E k with
  | none => simp
  | some v =>
    have := List.length_pos_of_mem ((getE_iff h).1 hg)
    simp; omega

/-- As the map tells them. -/
def entF (E : Ents) (c : ByteArray) : Option Value := (getE E c).map Value.string
theorem entF_ins {E : Ents} (h : Rising E) (k v : ByteArray) : putF (entF E) k (.string v) = entF (insE E k v) := by
  funext c
  unfold putF entF
  rw [get_ins h]
  by_cases hc : c = k <;> simp [hc]
theorem entF_del {E : Ents} (h : Rising E) (k : ByteArray) : delF (entF E) k = entF (delE E k) := by
  funext c
  unfold delF entF
  rw [get_del h]
  by_cases hc : c = k <;> simp [hc]
theorem entF_some (E : Ents) (c : ByteArray) : (entF E c).isSome = (getE E c).isSome := by unfold entF; simp

/-- How the document's list grows, entry by entry. -/
theorem ins_snoc (L : Ents) (x : ByteArray × ByteArray) (k v : ByteArray) (h : Rising (L ++ [x])) :
    (blt x.1 k = true → insE (L ++ [x]) k v = L ++ [x] ++ [(k, v)] ∧ insE L k v = L ++ [(k, v)]) ∧
    (x.1 = k → insE (L ++ [x]) k v = L ++ [(k, v)]) ∧
    (blt k x.1 = true → insE (L ++ [x]) k v = insE L k v ++ [x]) := by
  have hx : ∀ a ∈ L, blt a.1 x.1 = true := fun a ha => (List.pairwise_append.1 h).2.2 a ha x (by simp)
  have fl : (∀ a ∈ L, blt a.1 k = true) → L.filter (fun e => blt e.1 k) = L ∧ L.filter (fun e => blt k e.1) = [] := by
    intro ha
    refine ⟨List.filter_eq_self.2 ha, List.filter_eq_nil_iff.2 fun a hm => ?_⟩
    rw [blt_asymm (ha a hm)]; simp
  unfold insE
  simp only [List.filter_append]
  refine ⟨fun hb => ?_, fun hb => ?_, fun hb => ?_⟩
  · obtain ⟨f1, f2⟩ := fl fun a ha => blt_trans (hx a ha) hb
    rw [f1, f2]
    simp [hb, blt_asymm hb]
  · obtain ⟨f1, f2⟩ := fl fun a ha => by rw [← hb]; exact hx a ha
    rw [f1, f2]
    simp [hb, blt_irrefl]
  · simp [hb, blt_asymm hb]
theorem ins_all {L : Ents} {k v : ByteArray} (h : ∀ a ∈ L, blt a.1 k = true) : insE L k v = L ++ [(k, v)] := by
  unfold insE
  rw [List.filter_eq_self.2 h, List.filter_eq_nil_iff.2 (fun a hm => by rw [blt_asymm (h a hm)]; simp)]
theorem del_snoc (L : Ents) (x : ByteArray × ByteArray) (k : ByteArray) : delE (L ++ [x]) k = if x.1 = k then delE L k else delE L k ++ [x] := by
  unfold delE
  rw [List.filter_append]
  by_cases h : x.1 = k
  · simp [h]
  · simp [h]

/-- An update. -/
structure Upd where
  kind : Nat
  key : ByteArray
  val : ByteArray
  delta : Nat
def checkU (u : Upd) : Nat := if u.key.size = 0 ∨ 16 < u.key.size ∨ 32 < u.val.size then 13 else if u.kind < 1 ∨ 3 < u.kind ∨ (u.kind ≠ 1 ∧ u.val.size ≠ 0) ∨ (u.kind ≠ 3 ∧ u.delta ≠ 0) then 2 else 0
def leNum : List UInt8 → Nat
  | [] => 0
  | b :: l => b.toNat + 256 * leNum l
def leBytes : Nat → Nat → List UInt8
  | 0, _ => []
  | k + 1, n => UInt8.ofNat (n % 256) :: leBytes k (n / 256)
def num8 (n : Nat) : ByteArray := ⟨(leBytes 8 n).toArray⟩
def onV (old : Option ByteArray) (u : Upd) : Option ByteArray :=
  if u.kind = 1 then some u.val else if u.kind = 2 then none else some (num8 ((leNum (old.getD ⟨#[]⟩).toList + u.delta) % 18446744073709551616))
def mayU (old : Option ByteArray) (u : Upd) : Prop := u.kind = 3 → ∀ v, old = some v → v.size = 8
instance (old : Option ByteArray) (u : Upd) : Decidable (mayU old u) := by
  unfold mayU
  cases old with
  | none => exact .isTrue (by simp)
  | some v => exact decidable_of_iff (u.kind = 3 → v.size = 8) (by simp)
def errU (E : Ents) (u : Upd) : Nat := if checkU u ≠ 0 then checkU u else if mayU (getE E u.key) u then 0 else 14
def doE (E : Ents) (u : Upd) : Ents := match onV (getE E u.key) u with
  | some v => insE E u.key v
  | none => delE E u.key
def stepE (E : Ents) (u : Upd) : Ents := if errU E u ≠ 0 then E else doE E u
theorem doE_rising {E : Ents} (h : Rising E) (u : Upd) : Rising (doE E u) := by
  unfold doE
  split
  · exact ins_rising h _ _
  · exact del_rising h _
theorem stepE_rising {E : Ents} (h : Rising E) (u : Upd) : Rising (stepE E u) := by
  unfold stepE
  split
  · exact h
  · exact doE_rising h u
/-- What a scan tells. -/
def within (low high : ByteArray) (e : ByteArray × ByteArray) : Bool := !blt e.1 low && (decide (high.size = 0) || blt e.1 high)
def scanE (E : Ents) (low high : ByteArray) (most : Int) : Ents := (E.filter (within low high)).take most.toNat
theorem scan_step (L : Ents) (x : ByteArray × ByteArray) (low high : ByteArray) (most : Int) :
    scanE (L ++ [x]) low high most = if within low high x = true ∧ ((scanE L low high most).length : Int) < most then scanE L low high most ++ [x] else scanE L low high most := by
  unfold scanE
  rw [List.filter_append]
  by_cases hw : within low high x = true
  · rw [List.filter_cons_of_pos hw, List.filter_nil, List.length_take, List.take_append]
    by_cases hl : (((min most.toNat (L.filter (within low high)).length : Nat)) : Int) < most
    · rw [if_pos ⟨hw, hl⟩, List.take_of_length_le (by omega : (L.filter (within low high)).length ≤ most.toNat), List.take_of_length_le (by simp; omega)]
    · rw [if_neg (fun e => hl e.2), show most.toNat - (L.filter (within low high)).length = 0 by omega]
      simp
  · rw [List.filter_cons_of_neg hw, List.filter_nil, List.append_nil, if_neg (fun e => hw e.1)]
theorem scan_all (E : Ents) (m : Int) (hm : (E.length : Int) ≤ m) : scanE E ⟨#[]⟩ ⟨#[]⟩ m = E := by
  unfold scanE
  rw [List.filter_eq_self.2, List.take_of_length_le (by omega)]
  intro e _
  unfold within blt
  have : Op.bytesLess e.1.toList (ByteArray.toList ⟨#[]⟩) = false := by
    rw [show (ByteArray.toList ⟨#[]⟩) = ([] : List UInt8) by rw [Lib.toList_data]]
    cases e.1.toList <;> rfl
  rw [this]; rfl
theorem leNum_lt : ∀ (l : List UInt8), leNum l < 256 ^ l.length
  | [] => by simp [leNum]
  | b :: l => by
    have h1 := leNum_lt l
    have h2 := b.toNat_lt
    unfold leNum
    rw [List.length_cons, Nat.pow_succ]
    omega
theorem leNum_snoc : ∀ (l : List UInt8) (b : UInt8), leNum (l ++ [b]) = leNum l + b.toNat * 256 ^ l.length
  | [], b => by simp [leNum]
  | c :: l, b => by
    show c.toNat + 256 * leNum (l ++ [b]) = c.toNat + 256 * leNum l + b.toNat * 256 ^ (l.length + 1)
    rw [leNum_snoc l b, Nat.pow_succ, Nat.mul_add]
    have : 256 * (b.toNat * 256 ^ l.length) = b.toNat * (256 ^ l.length * 256) := by
      rw [Nat.mul_comm (256 ^ l.length) 256, Nat.mul_left_comm]
    omega
theorem leBytes_snoc : ∀ (k n : Nat), leBytes (k + 1) n = leBytes k n ++ [UInt8.ofNat (n / 256 ^ k % 256)]
  | 0, n => by simp [leBytes]
  | k + 1, n => by
    rw [show leBytes (k + 1 + 1) n = UInt8.ofNat (n % 256) :: leBytes (k + 1) (n / 256) from rfl, leBytes_snoc k (n / 256), Nat.div_div_eq_div_mul, ← Nat.pow_succ']
    rfl
theorem leBytes_length : ∀ (k n : Nat), (leBytes k n).length = k
  | 0, _ => rfl
  | k + 1, n => by simp [leBytes, leBytes_length k]
theorem le_step (l : List UInt8) (b : UInt8) (j : Nat) (hj : j < 8) (hl : l.length = j) :
    bits .or .u64 (leNum l : Nat) (IntKind.u64.wrap (IntKind.u64.wrap (b.toNat : Int) * 2 ^ (8 * j))) = ((leNum (l ++ [b]) : Nat) : Int) := by
  have h1 := leNum_lt l
  have h2 := b.toNat_lt
  rw [hl] at h1
  have hp : (256 : Nat) ^ j = 2 ^ (8 * j) := by rw [Nat.pow_mul]
  rw [hp] at h1
  have hj2 : 2 ^ (8 * j) ≤ 2 ^ 56 := Nat.pow_le_pow_right (by omega) (by omega)
  have hlt : b.toNat * 2 ^ (8 * j) < 18446744073709551616 := by
    have : b.toNat * 2 ^ (8 * j) ≤ 255 * 2 ^ 56 := Nat.mul_le_mul (by omega) hj2
    omega
  have e1 : IntKind.u64.wrap (b.toNat : Int) = (b.toNat : Int) := by rw [IntKind.wrap_u64]; omega
  have e2 : ((b.toNat : Int) * 2 ^ (8 * j)) = ((b.toNat * 2 ^ (8 * j) : Nat) : Int) := by push_cast; rfl
  rw [e1, e2]
  have e3 : IntKind.u64.wrap ((b.toNat * 2 ^ (8 * j) : Nat) : Int) = ((b.toNat * 2 ^ (8 * j) : Nat) : Int) := by rw [IntKind.wrap_u64]; omega
  rw [e3, bits_or_u64_nat _ _ (by omega) hlt, leNum_snoc, hl, hp]
  congr 1
  rw [Nat.or_comm, Nat.mul_comm b.toNat, ← Nat.two_pow_add_eq_or_of_lt h1]
  omega
theorem take_byte {s : ByteArray} {j : Nat} (hj : j < s.size) : s.toList.take (j + 1) = s.toList.take j ++ [s[j]] := by
  have h1 : s.toList = s.data.toList := Lib.toList_data s
  have h2 : j < s.data.toList.length := by rw [Array.length_toList]; exact hj
  rw [h1, List.take_succ_eq_append_getElem h2]
  rfl
theorem empty_of {s : ByteArray} (h : s.size = 0) : s.toList.isEmpty = true := by
  rw [Lib.toList_data, List.isEmpty_iff]
  exact List.eq_nil_of_length_eq_zero (by rw [Array.length_toList]; exact h)
theorem empty_not {s : ByteArray} (h : s.size ≠ 0) : s.toList.isEmpty = false := by
  rw [Lib.toList_data]
  cases h2 : s.data.toList with
  | nil => exact absurd (by show s.data.size = 0; rw [← Array.length_toList, h2]; rfl) h
  | cons a l => rfl
theorem num8_size (n : Nat) : (num8 n).size = 8 := by
  show (leBytes 8 n).toArray.size = 8
  simp [leBytes_length]
end Go.Proofs.Ytahaecieklfhkaa
