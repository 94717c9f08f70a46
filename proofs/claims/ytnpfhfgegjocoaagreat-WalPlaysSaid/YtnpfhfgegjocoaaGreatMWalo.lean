/- law13: wakes. -/
import Derived.Test.YtnpfhfgegjocoaaGreatMWal
import Derived.Deep.CutRange
import Derived.Test.YtnpfhfgegjocoaaGreatMI
/- The log: it is opened. -/
namespace Go.Proofs.YtnpfhfgegjocoaaGreat
open Go.RowKit

theorem info_rec : (Tryz.prog.info? 129).map (fun i => (i.zero, i.size, i.bytes)) = some (some (.agg #[.int .u64 0, .int .u32 0, .slice none 0 0]), 3, 40) := by kernel_rfl
def slN : Value → Nat
  | .slice _ n _ => n
  | _ => 0
theorem slN_of {w : World} {base : Nat} {e : TypeId} {s n : Nat} {v : Value} {xs : List Value} (h : w.ownsRow base e s v n xs) : ∃ A cap, v = .slice A n cap := by
  rcases h.2 with ⟨rfl, rfl⟩ | ⟨g, cap, cur, rfl, _⟩
  · exact ⟨none, 0, rfl⟩
  · exact ⟨_, cap, rfl⟩
theorem ringE_ok {B f k : Nat} (h : ringE B (f : Int) (k : Int) = 0) : f + k ≤ B := by
  unfold ringE at h
  split at h
  · cases h
  · omega
theorem cells_new3 (w : World) (a b c : Value) (t : TypeId) (g : Nat) (hg : w.heap.size = g) : ∀ j u, [a, b, c][j]? = some u → (w.alloc (.cells #[a, b, c] t)).cell? ((⟨g, 0, none⟩ : Addr).add j) = some u := by
  intro j u hu
  subst hg
  have := (Blk.new w t [a, b, c]).cell hu
  rw [addr_add, Nat.zero_add]
  exact this
set_option linter.unusedVariables false in
theorem app_facts {w0 wa w8 : World} {F F' G K : List Nat} {A A13 : Option Addr} {n cap13 g5 rb base wrs : Nat} {tk lb b p : Nat} {x : Nat → Nat} {W : World} {M : Mi} {L0 L : LogE} {rs : List (List UpdE)} {us : List UpdE} {cells : List Value}
    (hg3 : wa.grownBy w8 (Value.slice A13 n cap13).ownBlock) (HOW : Hid (∀ g, (Value.slice A13 n cap13).ownBlock = some g → g ≠ lb ∧ g ≠ tk ∧ g < g5 ∧ w0.heap.size ≤ g ∧ g ∈ F')) (HGA : Hid (Blk wa g5 129 cells)) (HAA : Hid (Row wa A (uRow us))) (HAG : Hid (∀ a, A = some a → a.block < g5 ∧ wrs ≤ a.block)) (HLT : Hid (∀ g ∈ F', g < wrs))
    (HOA : Hid (OpIn W wa G K x b p tk lb rb base M L0 L rs (.slice A13 n cap13))) (HFL : Hid (∀ g ∈ F, g < w0.heap.size)) :
    Hid (Mods (match (Value.slice A13 n cap13).ownBlock with | some g => [g] | none => []) wa w8) ∧ Hid (Minds F wa w8) ∧ Hid (Blk w8 g5 129 cells) ∧ Hid (Row w8 A (uRow us)) ∧ Hid (Blk w8 lb 214 (lgC b tk L)) ∧ Hid (Blk w8 tk 172 sumRow) := by
  have hm : Mods (match (Value.slice A13 n cap13).ownBlock with | some g => [g] | none => []) wa w8 := Mods.grown (Mods.refl _ _) hg3 (fun k hk => .inl (by rw [hk]; simp))
  obtain ⟨N, hN, hm8⟩ : ∃ N, (∀ k ∈ N, (Value.slice A13 n cap13).ownBlock = some k) ∧ Mods N wa w8 := by
    refine ⟨_, fun k hk => ?_, hm⟩
    cases hv : (Value.slice A13 n cap13).ownBlock with
    | none => rw [hv] at hk; cases hk
    | some g0 => rw [hv] at hk; rw [List.mem_singleton.1 hk]
  refine ⟨Lib.hid hm, Lib.hid ⟨N, hm8, fun k hk hx => ?_⟩, Lib.hid (HGA.out.keep hm8 (fun hx => ?_)), Lib.hid (HAA.out.keep hm8 (fun a ha hx => ?_)), Lib.hid (HOA.out.lg.lg.keep hm8 (fun hx => (HOW.out _ (hN _ hx)).1 rfl)), Lib.hid (HOA.out.lg.sum.keep hm8 (fun hx => (HOW.out _ (hN _ hx)).2.1 rfl))⟩
  · have h1 := (HOW.out _ (hN _ hk)).2.2.2.1
    have h2 := HFL.out k hx
    omega
  · have h1 := (HOW.out _ (hN _ hx)).2.2.1
    omega
  · have h1 := HOW.out _ (hN _ hx)
    have h2 := (HAG.out a ha).2
    have h3 := HLT.out _ h1.2.2.2.2
    omega
section
variable {W w w' : World} {F : List Nat} {x : Nat → Nat} {b p : Nat} {M M2 : Mi} {L0 L2 : LogE} {B z c : Nat}
set_option maxRecDepth 100000 in
set_option maxHeartbeats 6400000 in
theorem lgOpen_any (h : OwnM W F w b p x M) (hF0 : Fine B z c M.P) (hB : B ≤ 5000) (hL : L0.Ok) (hh : L0.have_ = 0) (hrg : ringE B (L0.first : Int) (L0.count : Int) = 0) {rs : List (List UpdE)} (hop : Opens B z M L0 rs M2 L2) :
    Calls Tryz.prog 48 #[.pointer (some ⟨b, 0, none⟩), .agg #[.int .i64 (L0.first : Nat), .int .i64 (L0.count : Nat)], .int .u64 (L0.next : Nat), .int .u32 (L0.chain : Nat)] w fun e w' => ∃ lb tk A cap, e = .returned (.tuple #[.pointer (some ⟨lb, 0, none⟩), .slice A rs.length cap, .int .i64 0]) ∧
      Hid (∃ F' K rb base, OpIn W w' F' K x b p tk lb rb base M2 L0 L2 rs (.slice A rs.length cap) ∧ ∀ g ∈ F, g ∈ F') ∧ Hid (Minds F w w') ∧ Hid (w.heap.size ≤ lb) := by
  obtain ⟨w0, hw0⟩ : ∃ w0, w.alloc (.cells #[.int .i64 (L0.first : Nat), .int .i64 (L0.count : Nat)] 104) = w0 := ⟨_, rfl⟩
  obtain ⟨rb, hrb⟩ : ∃ rb, w.heap.size = rb := ⟨_, rfl⟩
  have hm0 : Mods [] w w0 := by rw [← hw0]; exact (Mods.refl _ _).alloc _
  have hR0 : Blk w0 rb 104 [.int .i64 (L0.first : Nat), .int .i64 (L0.count : Nat)] := by rw [← hw0, ← hrb]; exact Blk.new w 104 _
  have cC := Lib.hid (rgCheck_any (h.still hm0) hF0 hB (L0.first : Int) (L0.count : Int))
  rw [hrg] at cC
  have HO := Lib.hid h
  have HR0 := Lib.hid hR0
  have HM0 := Lib.hid hm0
  have HOP := Lib.hid hop
  have HLO := Lib.hid hL
  have HH := Lib.hid hh
  have c0 := hR0.cell (i := 0) rfl
  have c1 := hR0.cell (i := 1) rfl
  have HFL : Hid (∀ g ∈ F, g < w.heap.size) := Lib.hid h.lt
  have HBK : Hid (∀ L' : LogE, L'.first = L0.first → L'.count = L0.count → L'.Ok → L'.block L'.next < B ∧ L'.first ≤ 5000) := Lib.hid (fun L' e1 e2 hk => by
    have h1 := ringE_ok hrg
    have h2 := hk.count1
    have h3 := Nat.mod_lt L'.next (show 0 < L'.count by omega)
    unfold LogE.block
    refine ⟨by omega, hk.first⟩)
  clear h hF0 hm0 hR0 hop hL hrg hh
  go_enter Tryz.func48, Tryz.ntmps48
  go_upto_region 1 with fail
  try rw [hw0, hrb]
  clear hw0
  go_upto_region 4 with (go_at_call 106; refine cC.out.mono ?_; rintro e w1 ⟨rfl, HM1⟩)
  have HR1 := Lib.hid (HR0.out.keep HM1.out (by simp))
  have HMM1 := Lib.hid (HM0.out.trans HM1.out (by simp))
  have d0 := HR1.out.cell (i := 0) rfl
  have d1 := HR1.out.cell (i := 1) rfl
  clear c0 c1 cC HM0 HM1 HR0
  go_cut [12] from 26 to 32 (fun lv wx => ∃ tk lb, lv = .pointer (some ⟨lb, 0, none⟩) ∧ Hid (Mods [] w1 wx) ∧ Hid (Blk wx tk 172 sumRow ∧ Blk wx lb 214 [.pointer (some ⟨b, 0, none⟩), .pointer (some ⟨tk, 0, none⟩), .int .i64 (L0.first : Nat), .int .i64 (L0.count : Nat), .int .u64 (L0.next : Nat), .int .u32 (L0.chain : Nat), .int .i64 0] ∧ w1.heap.size ≤ tk ∧ w1.heap.size ≤ lb ∧ tk ≠ lb))
  case first =>
    go_region_with ((go_at_call 27; refine (sumMake_any _).mono ?_; rintro e w2 ⟨tk, rfl, hT, hm2, htk⟩; have HM2 := Lib.hid (((Mods.refl [] w1).drew).trans hm2 (by simp)); have HR2 := Lib.hid (HR1.out.keep HM2.out (by simp)); have e0 := HR2.out.cell (i := 0) rfl; have e1 := HR2.out.cell (i := 1) rfl; have HT := Lib.hid (And.intro hT htk); clear hT hm2 htk))
    all_goals go_wp2_with fail
    all_goals go_meet
    all_goals exact ⟨tk, w2.heap.size, rfl, Lib.hid (HM2.out.alloc _), Lib.hid ⟨HT.out.1.alloc _, Blk.new w2 214 _, HT.out.2, HM2.out.size, by have := HT.out.1.lt; omega⟩⟩
  case rest =>
    obtain ⟨tk, lb, rfl, HM2, HB2⟩ := hcut
    have hb : Blk wc lb 214 (lgC b tk L0) := by
      have h := HB2.out.2.1
      rw [show lgC b tk L0 = [.pointer (some ⟨b, 0, none⟩), .pointer (some ⟨tk, 0, none⟩), .int .i64 (L0.first : Nat), .int .i64 (L0.count : Nat), .int .u64 (L0.next : Nat), .int .u32 (L0.chain : Nat), .int .i64 (L0.have_ : Nat)] from rfl, HH.out]
      exact h
    have hm2 := HMM1.out.trans HM2.out (by simp)
    have hs1 := HMM1.out.size
    have HOI : Hid (OpIn W wc ([tk, lb, rb] ++ F) [] x b p tk lb rb w.heap.size M L0 L0 [] (.slice none 0 0)) := by
      have l1 := HB2.out.1.lt
      have l2 := hb.lt
      have hr := HR1.out.keep HM2.out (by simp)
      have l3 := hr.lt
      have l4 := HR1.out.lt
      have t1 := HB2.out.2.2.1
      have t2 := HB2.out.2.2.2.1
      refine Lib.hid ⟨⟨HO.out.protect hm2 (fun k hk => ?_), HB2.out.1, hb, ⟨by simp, by simp⟩, ?_, HB2.out.2.2.2.2⟩, hr, ⟨by simp, by omega⟩, ⟨[], World.ownsRow_nil _ _ _ _, rfl⟩, fun k hk => (by cases hk), fun g hg => (by cases hg), rfl, ⟨HO.out.mods.size, hm2.size⟩⟩
      · simp only [List.cons_append, List.nil_append, List.mem_cons] at hk
        rcases hk with rfl | rfl | rfl | hk
        · exact .inr ⟨by omega, l1⟩
        · exact .inr ⟨by omega, l2⟩
        · exact .inr ⟨by omega, l3⟩
        · exact .inl hk
      · have := HO.out.mods.size
        omega
    have HWL : Hid (w.heap.size ≤ lb) := Lib.hid (by have t2 := HB2.out.2.2.2.1; omega)
    have HMM := Lib.hid hm2
    clear hb hm2 HB2 HM2 HMM1 HR1 d0 d1 HO hs1
    go_wp2_with fail
    go_loopw [13] (fun ov wr => ∃ (dn rs' : List (List UpdE)) (M' : Mi) (L' : LogE) (F' K : List Nat), rs = dn ++ rs' ∧ OpIn W wr F' K x b p tk lb rb w.heap.size M' L0 L' dn ov ∧ Opens B z M' L' rs' M2 L2 ∧ L'.Ok ∧ (∀ g ∈ F, g ∈ F') ∧ Minds F w wr) (fun ov _ => rs.length + 1 - slN ov)
    case atStart => exact ⟨[], rs, M, L0, _, [], rfl, HOI.out, HOP.out, HLO.out, fun g hg => List.mem_append_right _ hg, Minds.of HMM.out⟩
    case round =>
      clear HOI HOP HLO HMM
      obtain ⟨dn, rs', M', L', F', K, hrs, hI, hO, hLO, hFF, hMi⟩ := hrel
      obtain ⟨A13, cap13, rfl⟩ : ∃ A cap, u13 = .slice A dn.length cap := by obtain ⟨cs, h1, _⟩ := hI.row; exact slN_of h1
      have HI := Lib.hid hI
      have HFF := Lib.hid hFF
      have HMI := Lib.hid hMi
      have HRS := Lib.hid hrs
      have cLf := Lib.hid (lgLeft_any hI.lg.lg hLO)
      obtain ⟨lf, hlf⟩ : ∃ lf, L'.count - L'.have_ = lf := ⟨_, rfl⟩
      rw [hlf] at cLf
      have hto := tooks_first dn L0
      rw [hI.last, HH.out] at hto
      obtain ⟨ht1, ht2, ht3⟩ := hto
      have hbk := HBK.out L' ht1 ht2 hLO
      have HDN : Hid (dn.length ≤ 256 ∧ L'.have_ = dn.length) := Lib.hid (by have h1 := hLO.have_; have h2 := hLO.count2; omega)
      have HLF := Lib.hid hlf
      have HLO1 := Lib.hid hLO
      clear hI hFF hMi hrs hlf ht3
      cases rs' with
      | nil =>
        obtain ⟨rfl, rfl, hend⟩ := hO
        have hdn : rs = dn := by have h := HRS.out; rw [List.append_nil] at h; exact h
        subst hdn
        rcases hend with hfull | ⟨hlt, c1, hF1, hc1, hno⟩
        · as_aux_lemma =>
          have hlf0 : lf = 0 := by have := HLF.out; omega
          subst hlf0
          go_wp2_with (go_at_call 55; refine cLf.out.mono ?_; rintro e w3 ⟨rfl, HM3⟩)
          go_ret3
          exact ⟨lb, tk, A13, cap13, rfl, Lib.hid ⟨F', K, rb, w.heap.size, HI.out.calm HM3.out, HFF.out⟩, Lib.hid (HMI.out.tr HM3.out), HWL⟩
        · as_aux_lemma =>
          have hlf0 : (0 : Int) < (lf : Int) := by have := HLF.out; omega
          have cF := Lib.hid (fun (w3 : World) (hm : Mods [] wr w3) => lgFind_no (HI.out.calm hm).lg hF1 (by omega) hLO hbk.1 hno)
          clear hF1 hno hLO hbk
          go_wp2_with (first | (go_at_call 55; refine cLf.out.mono ?_; rintro e w3 ⟨rfl, HM3⟩) | (go_at_call 107; refine (cF.out _ HM3.out).mono ?_; rintro e w4 ⟨rfl, HL4, HN4⟩) | fail)
          go_ret3
          exact ⟨lb, tk, A13, cap13, rfl, Lib.hid ⟨F', K, rb, w.heap.size, ((HI.out.calm HM3.out).turn HL4.out HN4.out (fun _ h => h)).calm ((Mods.refl _ _).alloc _), HFF.out⟩, Lib.hid ((((HMI.out.tr HM3.out).trans (HN4.out.mono HFF.out))).tr ((Mods.refl _ _).alloc _)), HWL⟩
      | cons us rs2 =>
        as_aux_lemma =>
        obtain ⟨hlt, hn1, ⟨c1, pre, y, post, hF1, hc1, hreps, hys, him, hpre, hyes, hd, hu0, hlen, hOp⟩⟩ := hO
        have hlf0 : (0 : Int) < (lf : Int) := by have := HLF.out; omega
        have cF := Lib.hid (fun (w3 : World) (hm : Mods [] wr w3) => lgFind_yes (HI.out.calm hm).lg hF1 (by omega) hLO hbk.1 hd (by omega) hu0 him hpre hyes)
        have h1 := hLO.first
        have h2 := hLO.count1
        have h3 := hLO.count2
        have cG := Lib.hid (fun W => rgBlock_any (W := W) (s := L'.next) h1 (show 0 < L'.count by omega) h3)
        obtain ⟨kb, hkb⟩ : ∃ kb, L'.block L'.next = kb := ⟨_, rfl⟩
        have hkb2 : L'.first + L'.next % L'.count = kb := hkb
        rw [hkb2, ht1, ht2] at cG
        rw [hkb] at him hOp
        have hkB : kb < B := by rw [← hkb]; exact hbk.1
        have cH := Lib.hid (fun (G : List Nat) (w5 : World) (hl : LgIn W w5 G x b p tk lb M' L') => oHeal hl.own hF1 hc1 hreps hkB hys)
        have cTk := Lib.hid (fun (w8 : World) (hb : Blk w8 lb 214 (lgC b tk L')) (ht : Blk w8 tk 172 sumRow) (A : Option Addr) (cap : Nat) (hr : Row w8 A (uRow us)) => lgTake_any (cap := cap) hb ht HI.out.lg.ne hLO hn1 hr rfl (by omega) hd)
        have HTO := Lib.hid (took_ok (us := us) hLO hlt hn1)
        have HLT : Hid (∀ g ∈ F', g < wr.heap.size) := Lib.hid HI.out.lg.own.lt
        have HOP := Lib.hid hOp
        have HLBF := Lib.hid HI.out.lg.mem.2
        obtain ⟨nu, hnu⟩ : ∃ nu, us.length = nu := ⟨_, rfl⟩
        rw [hnu] at cTk cF
        have HNU := Lib.hid hnu
        clear ht1 ht2 hF1 hLO hbk hkb hkb2 h1 h2 h3 hreps hys him hpre hyes hd hu0 hlen hOp hkB hnu hlt hn1
        go_upto_region 11 with (first | (go_at_call 55; refine cLf.out.mono ?_; rintro e w3 ⟨rfl, HM3⟩) | (go_at_call 107; refine (cF.out _ HM3.out).mono ?_; rintro e w4 ⟨A, cap, rfl, HA, HCAP, HL4, HN4, HNA⟩) | fail)
        obtain ⟨w5, hw5⟩ : ∃ w5, w4.alloc (.cells #[.int .u64 (L'.next : Nat), .int .u32 (L'.chain : Nat), .slice A nu cap] 129) = w5 := ⟨_, rfl⟩
        obtain ⟨g5, hg5⟩ : ∃ g5, w4.heap.size = g5 := ⟨_, rfl⟩
        have hm5 : Mods [] w4 w5 := by rw [← hw5]; exact (Mods.refl _ _).alloc _
        have HG5 : Hid (Blk w5 g5 129 [.int .u64 (L'.next : Nat), .int .u32 (L'.chain : Nat), .slice A nu cap]) := Lib.hid (by rw [← hw5, ← hg5]; exact Blk.new w4 129 _)
        have HL5 := Lib.hid (HL4.out.protect hm5 (G := [g5]) (fun k hk => by rw [List.mem_singleton.1 hk]; exact ⟨by omega, HG5.out.lt⟩))
        have HO5 := Lib.hid (((HI.out.calm HM3.out).turn HL4.out HN4.out (fun _ h => List.mem_append_right _ h)).turn HL5.out (Minds.of hm5) (fun _ h => List.mem_append_right _ h))
        have HA5 := Lib.hid (HA.out.keep0 hm5)
        have HFG : Hid (∀ g ∈ F', g < g5) := Lib.hid (fun g hg => by have := HL4.out.own.lt g (List.mem_append_right _ hg); omega)
        have HAG : Hid (∀ a, A = some a → a.block < g5 ∧ wr.heap.size ≤ a.block) := Lib.hid (fun a ha => by
          have h1 := HNA.out a ha
          have h2 := HM3.out.size
          have h3 := HL4.out.own.lt a.block (List.mem_append_left _ (by rw [ha]; simp [blkA]))
          exact ⟨by omega, by omega⟩)
        have HMW : Hid (Minds F w w5) := Lib.hid (((HMI.out.tr HM3.out).trans (HN4.out.mono HFF.out)).tr hm5)
        rw [hw5, hg5]
        clear hw5 hg5 hm5 HA HL4 HN4 HNA cF cLf HM3 HL5
        obtain ⟨G, hG⟩ : ∃ G, [g5] ++ (blkA A ++ F') = G := ⟨_, rfl⟩
        have HGS : Hid ((∀ g ∈ F', g ∈ G) ∧ g5 ∈ G ∧ (∀ a, A = some a → a.block ∈ G)) := Lib.hid (by
          rw [← hG]
          exact ⟨fun g h => by simp [h], by simp, fun a ha => by rw [ha]; simp [blkA]⟩)
        rw [hG] at HO5
        clear hG
        have q0 := HO5.out.ring.cell (i := 0) rfl
        have q1 := HO5.out.ring.cell (i := 1) rfl
        have q2 := HO5.out.lg.lg.cell (i := 4) rfl
        go_cut [18, 19] from 48 to 59 (fun hv ev wx => hv = .int .i64 ((M'.heal kb y).1 : Nat) ∧ ev = .int .i64 0 ∧ Hid (OpIn W wx G K x b p tk lb rb w.heap.size (M'.heal kb y).2 L0 L' dn (.slice A13 dn.length cap13)) ∧ Hid (Minds G w5 wx))
        case first =>
          clear HBK HH HWL cTk HTO HLT HOP HNU HFF HMI HRS HLO1 HDN HLF hlf0
          go_region_held3 (fun w' => w'.cell? ⟨rb, 0, none⟩ = some (.int .i64 (L0.first : Nat)) ∧ w'.cell? ⟨rb, 1, none⟩ = some (.int .i64 (L0.count : Nat)) ∧ w'.cell? ⟨lb, 4, none⟩ = some (.int .u64 (L'.next : Nat)))
            (first | go_keep | exact HD2.out | exact HD1.out | fail)
            ((first
              | (go_at_call 45; have zz := HD1; clear zz; refine (cH.out _ _ HO6.out.lg).mono ?_; rintro e w7 ⟨rfl, HW7, HN7⟩; have HO7 := Lib.hid (HO6.out.turn (HO6.out.lg.go HW7.out HN7.out) HN7.out (fun _ h => h)); have HD2 := Lib.hid (And.intro (HO7.out.ring.cell (i := 0) rfl) (And.intro (HO7.out.ring.cell (i := 1) rfl) (HO7.out.lg.lg.cell (i := 4) rfl))))
              | (go_at_call 108; refine (cG.out _).mono ?_; rintro e w6 ⟨rfl, HM5⟩; have HM6 := Lib.hid (((Mods.refl [] w5).drew).trans HM5.out (by simp)); have HO6 := Lib.hid (HO5.out.calm HM6.out); have HD1 := Lib.hid (And.intro (HO6.out.ring.cell (i := 0) rfl) (And.intro (HO6.out.ring.cell (i := 1) rfl) (HO6.out.lg.lg.cell (i := 4) rfl))))
              | fail))
          go_wp2_with fail
          go_meet
          first
            | exact ⟨rfl, rfl, HO7, Lib.hid ((Minds.of HM6.out).trans HN7.out)⟩
            | exact ⟨rfl, rfl, Lib.hid (HO7.out.calm ((Mods.refl _ _).drewN _)), Lib.hid (((Minds.of HM6.out).trans HN7.out).tr ((Mods.refl _ _).drewN _))⟩
        case rest =>
          obtain ⟨rfl, rfl, HO7, HN7⟩ := hcut
          have HG7 := Lib.hid (HN7.out.blk HG5.out HGS.out.2.1)
          have HA7 := Lib.hid (HN7.out.row HA5.out HGS.out.2.2)
          obtain ⟨cs, hrow, hrec⟩ := HO7.out.row
          have HREC := Lib.hid hrec
          obtain ⟨wa, hwa⟩ : ∃ wa, wc.alloc (.cells #[.int .u64 (L'.next : Nat), .int .u32 (L'.chain : Nat), .slice A nu cap] 129) = wa := ⟨_, rfl⟩
          obtain ⟨ga, hga⟩ : ∃ ga, wc.heap.size = ga := ⟨_, rfl⟩
          have hma : Mods [] wc wa := by rw [← hwa]; exact (Mods.refl _ _).alloc _
          have HMA := Lib.hid hma
          have HOA := Lib.hid (HO7.out.calm hma)
          have HGA := Lib.hid (HG7.out.keep hma (by simp))
          have HAA := Lib.hid (HA7.out.keep0 hma)
          have HROW := Lib.hid (owns_keepL hrow hma)
          have hcn := cells_new3 wc (.int .u64 (L'.next : Nat)) (.int .u32 (L'.chain : Nat)) (.slice A nu cap) 129 ga hga
          rw [hwa] at hcn
          have hsz : wa.heap.size = ga + 1 := by rw [← hwa, ← hga]; simp
          have hbase : w.heap.size ≤ wa.heap.size := HOA.out.base.2
          obtain ⟨i0, hi0, hz1, hz2, hz3⟩ := info_parts info_rec
          obtain ⟨hdn1, hdn2⟩ := HDN.out
          have r0 := HG7.out.cell (i := 0) rfl
          have r1 := HG7.out.cell (i := 1) rfl
          have r2 := HG7.out.cell (i := 2) rfl
          have HOW : Hid (∀ g, (Value.slice A13 dn.length cap13).ownBlock = some g → g ≠ lb ∧ g ≠ tk ∧ g < g5 ∧ w.heap.size ≤ g ∧ g ∈ F') := Lib.hid (fun g hg => by
            have h1 := HI.out.own g hg
            obtain ⟨cs', h2, _⟩ := HI.out.row
            exact ⟨h1.2.2.1, h1.2.2.2.1, HFG.out g h1.1, (h2.lt g hg).1, h1.1⟩)
          clear hma hrow hrec cG cH HG5 HA5 HI HO5 hdn2
          go_wp2_with (first
            | (at_builtin; refine wpList_append_lies _ rfl (.tmp 63) (.tmp 65) 100 rfl w.heap.size 129 i0 (.agg #[.int .u64 0, .int .u32 0, .slice none 0 0]) 3 40 Tryz.underlying100 hi0 hz1 hz2 hz3 rfl (by decide) _ _ _ rfl HROW.out ⟨ga, 0, none⟩ 1 1 [.int .u64 (L'.next : Nat), .int .u32 (L'.chain : Nat), .slice A nu cap] rfl rfl hcn (by simp [Value.oneCell']) (by decide) (by simp only [maxLen]; omega) (by omega) hbase (ga + 1) hsz ?_; intro g2 cap2 w8 hown3 hg3 hat3 hlt3; obtain ⟨HM8, HMF8, HG8, HR8, HB8, HT8⟩ := app_facts hg3 HOW HGA HAA HAG HLT HOA HFL; have HOWN3 := Lib.hid hown3; have HAT3 := Lib.hid hat3; have HLT3 := Lib.hid hlt3; have cT8 := Lib.hid (cTk.out w8 HB8.out HT8.out A cap HR8.out); have k0 := HG8.out.cell (i := 0) rfl; have k1 := HG8.out.cell (i := 1) rfl; have k2 := HG8.out.cell (i := 2) rfl; clear hown3 hg3 hat3 hlt3 r0 r1 r2 cTk)
            | (go_at_call 109; refine cT8.out.mono ?_; rintro e w9 ⟨rfl, HM9, HB9⟩)
            | fail)
          go_roundw
          case rel =>
            obtain rfl := HNU.out
            refine ⟨dn ++ [us], rs2, (M'.heal kb y).2, L'.took us, g2 :: G, blkA A ++ K, by rw [HRS.out, List.append_assoc]; rfl, ?_, HOP.out, HTO.out, fun g hg => List.mem_cons_of_mem _ (HGS.out.1 g (HFF.out g hg)), ?_⟩
            · refine HOA.out.add HAA.out HCAP.out.1 HCAP.out.2 (fun a ha => ?_) HROW.out (RecRow.keep (Minds.of HMA.out) (fun _ h => h) HREC.out) HM8.out HOWN3.out ?_ HLT3.out HM9.out HB9.out
              · have h1 := (HAG.out a ha).2
                have h2 := HLT.out lb HLBF.out
                refine ⟨HGS.out.2.2 a ha, by omega, fun g hg => ?_⟩
                have h3 := HLT.out g (HOW.out g hg).2.2.2.2
                omega
              · rcases HAT3.out with h | h
                · exact .inl h
                · exact .inr (by rw [h, hsz]; exact Nat.le_refl _)
            · refine ((((HMW.out.trans (HN7.out.mono (fun k hk => HGS.out.1 k (HFF.out k hk)))).tr HMA.out).trans HMF8.out)).trans ⟨[lb], HM9.out, fun k hk hx => ?_⟩
              rw [List.mem_singleton.1 hk] at hx
              have h1 := HFL.out lb hx
              have h2 := HWL.out
              omega
          case measure =>
            have h := congrArg List.length HRS.out
            simp only [List.length_append, List.length_cons] at h
            simp only [slN]
            omega
end
end Go.Proofs.YtnpfhfgegjocoaaGreat
/- law13: fresh, ring, again: a mirror anew over its devices. -/
namespace Go.Proofs.YtnpfhfgegjocoaaGreat
open Go.RowKit

/-- A mirror's memory, but for the devices. -/
structure Rest (w : World) (b p : Nat) (G : List Nat) (x : Nat → Nat) (M : Mi) : Prop where
  ex : ∃ tb mb gp, IsMir w b p tb mb M.reps ∧ Blk w tb 172 sumRow ∧ MapK kvPl w mb (badF M.bl) M.bl.length ∧ PairB w p gp x M.P.n M.P.tab ∧ G = b :: tb :: mb :: gp ∧ ∀ g ∈ gp, g ≠ b ∧ g ≠ tb ∧ g ≠ mb
  nd : M.bl.Nodup
section
variable {W w w' : World} {F G : List Nat} {x : Nat → Nat} {b p b2 p2 : Nat} {M M2 : Mi} {B z n c : Nat}
theorem IsM.rest {tb mb : Nat} {gp : List Nat} {fx : Nat → List Nat} (h : IsM w b p tb mb gp x fx M) : Rest w b p (b :: tb :: mb :: gp) x M :=
  ⟨⟨tb, mb, gp, h.blk, h.sum, h.map, h.pair.pb, rfl, h.freeG⟩, h.nd⟩
theorem Rest.keep (h : Rest w b p G x M) (hm : Minds F w w') (hG : ∀ g ∈ G, g ∈ F) : Rest w' b p G x M := by
  obtain ⟨⟨tb, mb, gp, h1, h2, h3, h4, rfl, h5⟩, h6⟩ := h
  obtain ⟨K, k1, k2⟩ := hm
  have hno : ∀ g, g ∈ b :: tb :: mb :: gp → g ∉ K := fun g hg hx => k2 g hx (hG g hg)
  exact ⟨⟨tb, mb, gp, Blk.keep h1 k1 (hno _ (by simp)), h2.keep k1 (hno _ (by simp)), h3.keep k1 (hno _ (by simp)), h4.keep k1 (fun g hg => hno _ (by simp [hg])), rfl, h5⟩, h6⟩
theorem Rest.mir (h : Rest w b p G x M) : ∃ tb mb, IsMir w b p tb mb M.reps := by
  obtain ⟨⟨tb, mb, gp, h1, _⟩, _⟩ := h
  exact ⟨tb, mb, h1⟩
/-- The old mirror again, over the devices as they are. -/
theorem Rest.own (h : Rest w b p G x M) (ho : OwnM W F w b2 p2 x M2) (hG : ∀ g ∈ G, g ∈ F ∧ W.heap.size ≤ g) {F' : List Nat} (hF : ∀ g ∈ F', g ∈ F ∧ g ∉ G) (hn : M2.P.n = M.P.n) : OwnM W F' w b p x ⟨{ M.P with dev := M2.P.dev }, M.bl, M.reps⟩ := by
  obtain ⟨⟨tb, mb, gp, h1, h2, h3, h4, rfl, h5⟩, h6⟩ := h
  obtain ⟨tb2, mb2, gp2, fx, hI, hf⟩ := ho.ex
  have hno : ∀ g ∈ b :: tb :: mb :: gp, ∀ k, k < 2 → g ∉ fx k := fun g hg k hk hx => (hf g (by
    rcases two_cases hk with rfl | rfl
    · exact .inr (.inr (.inr (.inr (.inl hx))))
    · exact .inr (.inr (.inr (.inr (.inr hx)))))).2 (hG g hg).1
  refine ⟨⟨tb, mb, gp, fx, ⟨h1, h2, h3, h6, ⟨h4, hI.pair.dev, hI.pair.apart, fun g hg k hk => hno g (by simp [hg]) k hk, hI.pair.same, ?_⟩, h5, fun k hk g hg => ⟨fun e => ?_, fun e => ?_, fun e => ?_⟩⟩, fun g hg => ?_⟩, ho.mods, fun g hg => ho.lt g (hF g hg).1⟩
  · have := hI.pair.fit
    unfold Pr.Fit at this ⊢
    simp only
    rw [← hn]
    exact this
  · exact hno b (by simp) k hk (by rw [← e]; exact hg)
  · exact hno tb (by simp) k hk (by rw [← e]; exact hg)
  · exact hno mb (by simp) k hk (by rw [← e]; exact hg)
  · rcases hg with rfl | rfl | rfl | hg | hg | hg
    · exact ⟨(hG g (by simp)).2, fun hx => (hF g hx).2 (by simp)⟩
    · exact ⟨(hG g (by simp)).2, fun hx => (hF g hx).2 (by simp)⟩
    · exact ⟨(hG g (by simp)).2, fun hx => (hF g hx).2 (by simp)⟩
    · exact ⟨(hG g (by simp [hg])).2, fun hx => (hF g hx).2 (by simp [hg])⟩
    · have := hf g (.inr (.inr (.inr (.inr (.inl hg)))))
      exact ⟨this.1, fun hx => this.2 (hF g hx).1⟩
    · have := hf g (.inr (.inr (.inr (.inr (.inr hg)))))
      exact ⟨this.1, fun hx => this.2 (hF g hx).1⟩
def openM (M : Mi) : Mi := ⟨openP M.P, [], 0⟩
theorem Gm.openM (h : Gm B z n c M) : Gm B z n c (openM M) := by
  obtain ⟨o1, o2, o3, o4, _, _⟩ := open_inv h.pi
  exact ⟨o1, o3.trans h.nn, by show ((openP M.P).dev 0).size = z; rw [o2]; exact h.size, fun s hs => by show ((openP M.P).tab s).blocks = B; rw [o4 s hs]; exact h.blocks s hs, fun d hd => by show ((openP M.P).dev d).cache.length ≤ c; rw [o2]; exact h.few d hd, fun hb => absurd rfl hb⟩
theorem openM_read (_h : Gm B z n c M) {s : Nat} (hs : s < 2) (i : Int) : (Go.Proofs.YtnpfhfgegjocoaaGreat.openM M).P.read s i = M.P.read s i := open_read hs i
theorem openM_sound (h : Sound M.P) : Sound (Go.Proofs.YtnpfhfgegjocoaaGreat.openM M).P := h
theorem load_ring {w : World} {b : Nat} {a0 a1 : Value} (h : Blk w b 104 [a0, a1]) : (loadVar 104 ⟨b, 0, none⟩).run Tryz.prog w = .ok (.agg #[a0, a1]) w := by
  have c0 := h.cell (i := 0) (v := a0) rfl
  have c1 := h.cell (i := 1) (v := a1) rfl
  go_simp
theorem w13Ring_any : Calls Tryz.prog 49 #[] w fun e w' => e = .returned (.agg #[.int .i64 3, .int .i64 5]) ∧ Hid (Mods [] w w') := by
  have hb := Blk.new w 104 [.int .i64 0, .int .i64 0]
  have c0 := hb.cell (i := 0) rfl
  have c1 := hb.cell (i := 1) rfl
  have f0 := hb.free 0
  have f1 := hb.free 1
  go_enter Tryz.func49, Tryz.ntmps49
  go_wp2_with fail
  refine bodyPost_ret (results_c rfl rfl (load_ring (Blk.new w 104 [.int .i64 3, .int .i64 5]))) rfl ?_
  exact ⟨rfl, Lib.hid ((Mods.refl _ _).alloc _)⟩
set_option maxRecDepth 100000 in
set_option maxHeartbeats 3200000 in
theorem w13Again_any (h : OwnM W F w b p x M) (hg : Gm B z 4 c M) (hc : c ≤ 900000) :
    Calls Tryz.prog 57 #[.agg #[.pointer (some ⟨x 0, 0, none⟩), .pointer (some ⟨x 1, 0, none⟩)]] w fun e w' => ∃ b2 p2 G, e = .returned (.tuple #[.pointer (some ⟨b2, 0, none⟩), .bool true]) ∧ Hid (OwnM W (G ++ F) w' b2 p2 x (Go.Proofs.YtnpfhfgegjocoaaGreat.openM M)) ∧ Hid (Rest w' b p G x M ∧ (∀ g ∈ G, W.heap.size ≤ g ∧ g ∉ F)) ∧ Hid (Minds F w w') := by
  obtain ⟨o1, o2, o3, o4, o5, o6⟩ := open_inv hg.pi
  obtain ⟨tb, mb, gp, fx, hI, hf⟩ := h.foot_lt
  have hn := hg.nn
  have he : openP M.P = ((newP 4 M.P.dev).setTab 0 (M.P.tab 0)).setTab 1 (M.P.tab 1) := by unfold openP; rw [hn]
  have cO := Lib.hid (fun (w1 : World) (hm : Mods [] w w1) => rOpen_any (hI.pair.keep0 hm).devs M.P.n o5 (fun k hk => by have := hg.few k hk; omega) (fun k hk => (hg.pi.inv.dev k hk).q.off) (o6 0 (by decide)) (o6 1 (by decide)))
  rw [hn, ← he] at cO
  obtain ⟨w0, hw0⟩ : ∃ w0, w.alloc (.cells #[.pointer (some ⟨x 0, 0, none⟩), .pointer (some ⟨x 1, 0, none⟩)] 50) = w0 := ⟨_, rfl⟩
  obtain ⟨g0, hg0⟩ : ∃ g0, w.heap.size = g0 := ⟨_, rfl⟩
  have hm0 : Mods [] w w0 := by rw [← hw0]; exact (Mods.refl _ _).alloc _
  have hB0 : Blk w0 g0 50 [.pointer (some ⟨x 0, 0, none⟩), .pointer (some ⟨x 1, 0, none⟩)] := by rw [← hw0, ← hg0]; exact Blk.new w 50 _
  have HM0 := Lib.hid hm0
  have HH := Lib.hid h
  have HI := Lib.hid hI
  have HF := Lib.hid hf
  have c0 := hB0.cell (i := 0) rfl
  have c1 := hB0.cell (i := 1) rfl
  clear o1 o2 o3 o4 o5 o6 hI hf h hg hm0 hB0 hn he
  go_enter Tryz.func57, Tryz.ntmps57
  go_upto_region 1 with fail
  try rw [hw0, hg0]
  clear hw0 hg0
  go_wp2_with (first | (go_at_call 66; refine (cO.out _ HM0.out).mono ?_; rintro e w1 ⟨p2, gp2, rfl, HP, HM1, HN1⟩) | (go_at_call 46; refine (mNew_any _).mono ?_; rintro e w2 ⟨b2, tb2, mb2, rfl, HMi, HTb, HMap, HM2, HL2⟩) | fail)
  go_ret2
  obtain ⟨l1, l2, l3⟩ := HL2.out
  have hs0 := HM0.out.size
  have hs1 := HM1.out.size
  have hs2 := HM2.out.size
  have hI := HI.out
  have hf := HF.out
  have hmm : Mods (fx 0 ++ fx 1) w w2 := ((HM0.out.mono (by simp)).trans HM1.out (fun k hk => .inl hk)).trans HM2.out (by simp)
  have hpl : ∀ g ∈ gp2, g < w1.heap.size := fun g hg => HP.out.pb.lt g hg
  have hfl : ∀ k, k < 2 → ∀ g ∈ fx k, W.heap.size ≤ g ∧ g ∉ F ∧ g < w.heap.size := fun k hk g hg => hf g (by
    rcases two_cases hk with rfl | rfl
    · exact .inr (.inr (.inr (.inr (.inl hg))))
    · exact .inr (.inr (.inr (.inr (.inr hg)))))
  have hWw := HH.out.mods.size
  have hno : ∀ g ∈ fx 0 ++ fx 1, g ∉ b :: tb :: mb :: gp := fun g hg hx => by
    have hk : ∃ k, k < 2 ∧ g ∈ fx k := by
      rcases List.mem_append.1 hg with h | h
      · exact ⟨0, by decide, h⟩
      · exact ⟨1, by decide, h⟩
    obtain ⟨k, hk, hgk⟩ := hk
    obtain ⟨n1, n2, n3⟩ := hI.freeF k hk g hgk
    rcases List.mem_cons.1 hx with h | hx
    · exact n1 h
    · rcases List.mem_cons.1 hx with h | hx
      · exact n2 h
      · rcases List.mem_cons.1 hx with h | hx
        · exact n3 h
        · exact hI.pair.free g hx k hk hgk
  have hG : ∀ g ∈ b :: tb :: mb :: gp, W.heap.size ≤ g ∧ g ∉ F ∧ g < w.heap.size := fun g hg => hf g (by
    simp only [List.mem_cons] at hg
    rcases hg with h | h | h | h
    · exact .inl h
    · exact .inr (.inl h)
    · exact .inr (.inr (.inl h))
    · exact .inr (.inr (.inr (.inl h))))
  have hFl := HH.out.lt
  have hmind : Minds ((b :: tb :: mb :: gp) ++ F) w w2 := ⟨_, hmm, fun k hk hx => by
    rcases List.mem_append.1 hx with hx | hx
    · exact hno k hk hx
    · rcases List.mem_append.1 hk with h | h
      · exact (hfl 0 (by decide) k h).2.1 hx
      · exact (hfl 1 (by decide) k h).2.1 hx⟩
  have hold : ∀ g, g ∈ (b :: tb :: mb :: gp) ++ F → g < w.heap.size := fun g hg => by
    rcases List.mem_append.1 hg with h | h
    · exact (hG g h).2.2
    · exact hFl g h
  refine ⟨b2, p2, b :: tb :: mb :: gp, rfl, Lib.hid ⟨⟨tb2, mb2, gp2, fx, ⟨HMi.out, HTb.out, by rw [show (Go.Proofs.YtnpfhfgegjocoaaGreat.openM M).bl = [] from rfl, badF_nil]; exact HMap.out, List.nodup_nil, HP.out.keep0 HM2.out, fun g hg => ?_, fun k hk g hg => ?_⟩, fun g hg => ?_⟩, HH.out.mods.trans hmm (fun k hk => .inr ?_), fun g hg => ?_⟩, Lib.hid ⟨hI.rest.keep hmind (fun g hg => List.mem_append_left _ hg), fun g hg => ⟨(hG g hg).1, (hG g hg).2.1⟩⟩, Lib.hid (hmind.mono (fun k hk => List.mem_append_right _ hk))⟩
  · have := hpl g hg; exact ⟨by omega, by omega, by omega⟩
  · have := (hfl k hk g hg).2.2; exact ⟨by omega, by omega, by omega⟩
  · rcases hg with rfl | rfl | rfl | hg | hg | hg
    · exact ⟨by omega, fun hx => by have := hold _ hx; omega⟩
    · exact ⟨by omega, fun hx => by have := hold _ hx; omega⟩
    · exact ⟨by omega, fun hx => by have := hold _ hx; omega⟩
    · have := HN1.out g hg
      exact ⟨by omega, fun hx => by have := hold _ hx; omega⟩
    · refine ⟨(hfl 0 (by decide) g hg).1, fun hx => ?_⟩
      rcases List.mem_append.1 hx with hx | hx
      · exact hno g (List.mem_append_left _ hg) hx
      · exact (hfl 0 (by decide) g hg).2.1 hx
    · refine ⟨(hfl 1 (by decide) g hg).1, fun hx => ?_⟩
      rcases List.mem_append.1 hx with hx | hx
      · exact hno g (List.mem_append_right _ hg) hx
      · exact (hfl 1 (by decide) g hg).2.1 hx
  · rcases List.mem_append.1 hk with h | h
    · exact (hfl 0 (by decide) k h).1
    · exact (hfl 1 (by decide) k h).1
  · have := hold g hg; omega
end
end Go.Proofs.YtnpfhfgegjocoaaGreat
/- law13: fresh; a log that may not be opened. -/
namespace Go.Proofs.YtnpfhfgegjocoaaGreat
open Go.RowKit

theorem w13Fresh_any {W : World} :
    Calls Tryz.prog 47 #[] W fun e w' => ∃ x p b M, e = .returned (.tuple #[.agg #[.pointer (some ⟨x 0, 0, none⟩), .pointer (some ⟨x 1, 0, none⟩)], .pointer (some ⟨b, 0, none⟩), .bool true]) ∧ Hid (OwnM W [] w' b p x M) ∧ Hid (Gfresh 16 192 4 M) := by
  obtain ⟨hfit, P', k1, k2, k3⟩ := fresh_gm 16 192 4 (by decide) (by decide) (by decide) (by decide)
  have cN := Lib.hid (fun W => dNew_any (W := W) 24 192 (by decide))
  have cF := Lib.hid (fun (w : World) (x : Nat → Nat) (fx : Nat → List Nat) (h : Devs w x fx (fun _ => Dev.new 24 192)) => rFormat_any h 4 hfit (fun _ _ => by show (0 : Nat) + 2 < 1000000; omega) k1 (by rw [k2]))
  rw [k2] at cF
  have HK := Lib.hid k3
  clear k1 k2 k3 hfit
  obtain ⟨w0, hw0⟩ : ∃ w0, W.alloc (.cells #[.pointer none, .pointer none] 50) = w0 := ⟨_, rfl⟩
  have hb : Blk w0 W.heap.size 50 [.pointer none, .pointer none] := by rw [← hw0]; exact Blk.new W 50 _
  have hm0 : Mods [] W w0 := by rw [← hw0]; exact (Mods.refl _ _).alloc _
  have HB0 := Lib.hid (And.intro hb hm0)
  clear hb hm0
  go_enter Tryz.func47, Tryz.ntmps47
  go_upto_region 5 with (first | (go_at_call 80; have H2 := H0; refine (cN.out _).mono ?_; rintro e w2 ⟨b1, f1, rfl, H1, HM1, HF1⟩; have HD := Lib.hid (devs_two (H0.out.keep HM1.out (by simp)) H1.out H0.out.lt HF1.out)) | (go_at_call 80; refine (cN.out _).mono ?_; rintro e w1 ⟨b0, f0, rfl, H0, HM0, HF0⟩) | (go_at_call 64; refine (cF.out _ (two b0 b1) (two f0 f1) HD.out).mono ?_; rintro e w3 ⟨p, gp, fx, rfl, HP, HM2, HN2, HG2⟩) | (go_at_call 46; refine (mNew_any _).mono ?_; rintro e w4 ⟨b, tb, mb, rfl, HMi, HTb, HMap, HM4, HL4⟩))
  have hlt := HB0.out.1.lt
  have hk : Blk w4 W.heap.size 50 [.pointer none, .pointer none] := by
    have h1 := (HB0.out.1.keep HM0.out (by simp)).keep HM1.out (by simp)
    have h2 := h1.keep HM2.out (fun hx => by
      have hs := HM0.out.size
      rcases List.mem_append.1 hx with hx | hx
      · have := HF0.out _ hx; omega
      · have := HF1.out _ hx; omega)
    exact h2.keep HM4.out (by simp)
  have q0 := hk.cell (i := 0) rfl
  have q1 := hk.cell (i := 1) rfl
  have z0 := hk.free 0
  have z1 := hk.free 1
  go_wp2_with fail
  refine bodyPost_ret (results_ctt8 rfl rfl (load_devs8 ((hk.set 0 (.pointer (some ⟨b0, 0, none⟩))).set 1 (.pointer (some ⟨b1, 0, none⟩))))) rfl ?_
  have s1 := HM0.out.size
  have s2 := HM1.out.size
  have s3 := HM2.out.size
  have s4 := HM4.out.size
  obtain ⟨l1, l2, l3⟩ := HL4.out
  have hm45 : Mods [W.heap.size] w4 ((w4.setCell ⟨W.heap.size, 0, none⟩ (.pointer (some ⟨b0, 0, none⟩))).setCell ⟨W.heap.size, 1, none⟩ (.pointer (some ⟨b1, 0, none⟩))) := ((Mods.refl _ w4).setCell (.inl (by simp)) _).setCell (.inl (by simp)) _
  have hmA : Mods [] W w4 := (((HB0.out.2.trans HM0.out (by simp)).trans HM1.out (by simp)).trans HM2.out (fun k hk => .inr (by
    rcases List.mem_append.1 hk with hk | hk
    · have := HF0.out _ hk; omega
    · have := HF1.out _ hk; omega))).trans HM4.out (by simp)
  have hfx : ∀ k, k < 2 → ∀ g ∈ fx k, w0.heap.size ≤ g := fun k hk g hg => by
    rcases HN2.out k hk g hg with h | h
    · rcases two_cases hk with rfl | rfl
      · exact HF0.out g h
      · have := HF1.out g h; omega
    · omega
  have hgp : ∀ g ∈ gp, w0.heap.size ≤ g := fun g hg => by have := HG2.out g hg; omega
  have hp3 := HP.out
  have hgl : ∀ g ∈ gp, g < w3.heap.size := fun g hg => hp3.pb.lt _ hg
  have hfl : ∀ k, k < 2 → ∀ g ∈ fx k, g < w3.heap.size := fun k hk g hg => (hp3.dev k hk).lt _ hg
  have hbl : mb < b := l3
  refine ⟨two b0 b1, p, b, ⟨P', [], 0⟩, rfl, Lib.hid ⟨⟨tb, mb, gp, fx, ⟨?_, ?_, ?_, List.nodup_nil, ?_, fun g hg => ?_, fun k hk g hg => ?_⟩, fun g hg => ⟨?_, by simp⟩⟩, hmA.trans hm45 (fun k hk => .inr (by have := List.mem_singleton.1 hk; omega)), by simp⟩, HK⟩
  · exact Blk.keep HMi.out hm45 (fun hx => by have := List.mem_singleton.1 hx; omega)
  · exact HTb.out.keep hm45 (fun hx => by have := List.mem_singleton.1 hx; omega)
  · rw [badF_nil]
    exact HMap.out.keep hm45 (fun hx => by have := List.mem_singleton.1 hx; omega)
  · exact (HP.out.keep0 HM4.out).keep hm45 (fun g hg hx => by have := hgp g hg; have := List.mem_singleton.1 hx; omega) (fun k hk g hg hx => by have := hfx k hk g hg; have := List.mem_singleton.1 hx; omega)
  · have := hgl g hg; exact ⟨by omega, by omega, by omega⟩
  · have := hfl k hk g hg; exact ⟨by omega, by omega, by omega⟩
  · rcases hg with rfl | rfl | rfl | hg | hg | hg
    · omega
    · omega
    · omega
    · have := hgp g hg; omega
    · have := hfx 0 (by decide) g hg; omega
    · have := hfx 1 (by decide) g hg; omega
section
variable {W w w' : World} {F : List Nat} {x : Nat → Nat} {b p : Nat} {M : Mi} {B z n c : Nat}
/-- No mirror: refused. -/
theorem lgOpen_nil {f k : Int} {s h : Nat} : Calls Tryz.prog 48 #[.pointer none, .agg #[.int .i64 f, .int .i64 k], .int .u64 (s : Nat), .int .u32 (h : Nat)] w fun e w' => e = .returned (.tuple #[.pointer none, .slice none 0 0, .int .i64 1]) ∧ Hid (Mods [] w w') := by
  obtain ⟨w0, hw0⟩ : ∃ w0, w.alloc (.cells #[.int .i64 f, .int .i64 k] 104) = w0 := ⟨_, rfl⟩
  obtain ⟨rb, hrb⟩ : ∃ rb, w.heap.size = rb := ⟨_, rfl⟩
  have HM0 : Hid (Mods [] w w0) := Lib.hid (by rw [← hw0]; exact (Mods.refl _ _).alloc _)
  have hR0 : Blk w0 rb 104 [.int .i64 f, .int .i64 k] := by rw [← hw0, ← hrb]; exact Blk.new w 104 _
  have c0 := hR0.cell (i := 0) rfl
  have c1 := hR0.cell (i := 1) rfl
  clear hR0
  go_enter Tryz.func48, Tryz.ntmps48
  go_upto_region 1 with fail
  try rw [hw0, hrb]
  clear hw0
  go_wp2_with (go_at_call 106; refine (rgCheck_nil (w := w0)).mono ?_; rintro e w1 ⟨rfl, HM1⟩)
  go_ret3
  exact ⟨rfl, Lib.hid (HM0.out.trans HM1.out (by simp))⟩
/-- A ring that may not be: refused. -/
theorem lgOpen_no (h0 : OwnM W F w b p x M) (hF : Fine B z c M.P) (hB : B ≤ 5000) {f k : Int} {s h : Nat} {en : Nat} (he : ringE B f k = en) (hn : en ≠ 0) : Calls Tryz.prog 48 #[.pointer (some ⟨b, 0, none⟩), .agg #[.int .i64 f, .int .i64 k], .int .u64 (s : Nat), .int .u32 (h : Nat)] w fun e w' => e = .returned (.tuple #[.pointer none, .slice none 0 0, .int .i64 (en : Nat)]) ∧ Hid (Mods [] w w') := by
  obtain ⟨w0, hw0⟩ : ∃ w0, w.alloc (.cells #[.int .i64 f, .int .i64 k] 104) = w0 := ⟨_, rfl⟩
  obtain ⟨rb, hrb⟩ : ∃ rb, w.heap.size = rb := ⟨_, rfl⟩
  have hm0 : Mods [] w w0 := by rw [← hw0]; exact (Mods.refl _ _).alloc _
  have HM0 := Lib.hid hm0
  have hR0 : Blk w0 rb 104 [.int .i64 f, .int .i64 k] := by rw [← hw0, ← hrb]; exact Blk.new w 104 _
  have cC := Lib.hid (rgCheck_any (h0.still hm0) hF hB f k)
  rw [he] at cC
  have hen : ¬ (en : Int) = 0 := by omega
  have c0 := hR0.cell (i := 0) rfl
  have c1 := hR0.cell (i := 1) rfl
  clear hR0 hm0 h0 hF he hn
  go_enter Tryz.func48, Tryz.ntmps48
  go_upto_region 1 with fail
  try rw [hw0, hrb]
  clear hw0
  go_wp2_with (go_at_call 106; refine cC.out.mono ?_; rintro e w1 ⟨rfl, HM1⟩)
  go_ret3
  exact ⟨rfl, Lib.hid (HM0.out.trans HM1.out (by simp))⟩
set_option maxRecDepth 100000 in
set_option maxHeartbeats 1600000 in
theorem lgCut_any {tk lb : Nat} {L : LogE} (hb : Blk w lb 214 (lgC b tk L)) (hL : L.Ok) (hn : L.next + L.count < 18446744073709551616) :
    Calls Tryz.prog 51 #[.pointer (some ⟨lb, 0, none⟩)] w fun e w' => e = .returned (.tuple #[.int .u64 ((L.next + L.count : Nat) : Nat), .int .u32 (L.chain : Nat), .int .i64 0]) ∧ Hid (Mods [lb] w w') ∧ Hid (Blk w' lb 214 (lgC b tk ⟨L.first, L.count, L.next + L.count, L.chain, 0⟩)) := by
  have h2 := hL.count2
  obtain ⟨m, hm⟩ : ∃ m : Nat, (L.next : Int) + (L.count : Int) = (m : Int) := ⟨L.next + L.count, by omega⟩
  have hm2 : L.next + L.count = m := by omega
  rw [hm2] at hn ⊢
  have hcw : IntKind.u64.wrap (L.count : Int) = (L.count : Int) := by rw [IntKind.wrap_u64]; omega
  have hmw : IntKind.u64.wrap (m : Int) = (m : Int) := by rw [IntKind.wrap_u64]; omega
  obtain ⟨k, hk⟩ : ∃ k : Nat, (18446744073709551615 : Int) - (L.count : Int) = (k : Int) := ⟨18446744073709551615 - L.count, by omega⟩
  have hkw : IntKind.u64.wrap (k : Int) = (k : Int) := by rw [IntKind.wrap_u64]; omega
  have hle : ¬ (k : Int) < (L.next : Int) := by omega
  have HB := Lib.hid hb
  have c3 := hb.cell (i := 3) rfl
  have c4 := hb.cell (i := 4) rfl
  have c5 := hb.cell (i := 5) rfl
  have f4 := hb.free 4
  have f6 := hb.free 6
  have c6 := hb.cell (i := 6) rfl
  clear hb hL h2 hm2 hn
  go_enter Tryz.func51, Tryz.ntmps51
  go_upto_region 3 with fail
  go_region
  go_upto_region 5 with fail
  go_region
  go_upto_region 6 with fail
  obtain ⟨w5, hw5⟩ : ∃ w5, (w.setCell ⟨lb, 4, none⟩ (.int .u64 (m : Nat))).drew.drew = w5 := ⟨_, rfl⟩
  have HB5 : Hid (Blk w5 lb 214 (lgC b tk ⟨L.first, L.count, m, L.chain, L.have_⟩)) := Lib.hid (by rw [← hw5]; exact (HB.out.set 4 (.int .u64 (m : Nat))).drewN 2)
  have HM5 : Hid (Mods [lb] w w5) := Lib.hid (by rw [← hw5]; exact (((Mods.refl _ _).setCell (by simp) _).drew).drew)
  rw [hw5]
  clear hw5 c3 c4 c5 c6 f4 f6
  have f6 := HB5.out.free 6
  have c6 := HB5.out.cell (i := 6) rfl
  go_upto_region 7 with fail
  obtain ⟨w6, hw6⟩ : ∃ w6, w5.setCell ⟨lb, 6, none⟩ (.int .i64 0) = w6 := ⟨_, rfl⟩
  have HB6 : Hid (Blk w6 lb 214 (lgC b tk ⟨L.first, L.count, m, L.chain, 0⟩)) := Lib.hid (by rw [← hw6]; exact HB5.out.set 6 (.int .i64 0))
  have HM6 : Hid (Mods [lb] w w6) := Lib.hid (by rw [← hw6]; exact HM5.out.setCell (by simp) _)
  rw [hw6]
  clear hw6 f6 c6
  have c4 := HB6.out.cell (i := 4) rfl
  have c5 := HB6.out.cell (i := 5) rfl
  go_region
  go_wp2_with fail
  go_ret3
  exact ⟨rfl, Lib.hid (HM6.out.drewN _), Lib.hid (HB6.out.drewN _)⟩
end
end Go.Proofs.YtnpfhfgegjocoaaGreat
/- The log over a mirror without faults, plainly: its records lie in its ring; what Open goes through. -/
namespace Go.Proofs.YtnpfhfgegjocoaaGreat

def updR (rd : Nat → ByteArray) (i : Nat) (X : ByteArray) : Nat → ByteArray := fun j => if j = i then X else rd j
/-- A mirror of which both copies of each block are these. -/
structure WSt (c : Nat) (M : Mi) (rd : Nat → ByteArray) : Prop where
  gm : Gm 16 192 4 c M
  sound : Sound M.P
  both : ∀ (s i : Nat), s < 2 → i < 16 → M.P.read s (i : Int) = (rd i, 0)
  size : ∀ i, i < 16 → (rd i).size = 192
  still : Still 16 4 M.P
theorem WSt.fresh {M : Mi} (h : Gfresh 16 192 4 M) : WSt 0 M (fun _ => bA (zerosL 192)) :=
  ⟨h.gm, h.sound, h.zero, fun _ _ => by rw [bA_size]; unfold zerosL; rw [List.length_replicate], h.tab⟩
theorem WSt.mono {c c' : Nat} {M : Mi} {rd : Nat → ByteArray} (h : WSt c M rd) (hc : c ≤ c') : WSt c' M rd := ⟨h.gm.mono hc, h.sound, h.both, h.size, h.still⟩
theorem WSt.write {c : Nat} {M : Mi} {rd : Nat → ByteArray} (h : WSt c M rd) {i : Nat} (hi : i < 16) {X : ByteArray} (hX : X.size = 192) : (M.write i X).1 = 0 ∧ WSt (c + 2) (M.write i X).2 (updR rd i X) ∧ (M.write i X).2.reps = M.reps ∧ (M.bl = [] → (M.write i X).2.bl = []) := by
  obtain ⟨M', e, g, s, r, t, x, o, b⟩ := h.gm.write_ok h.sound hi hX
  rw [e]
  refine ⟨rfl, ⟨g, s, fun d j hd hj => ?_, fun j hj => ?_, fun d hd => by rw [t]; exact h.still d hd⟩, r, b⟩
  · unfold updR
    by_cases hji : j = i
    · subst hji; rw [if_pos rfl]; exact x d hd
    · rw [if_neg hji]; exact (o d j hd hj hji).trans (h.both d j hd hj)
  · unfold updR
    split
    · exact hX
    · exact h.size j hj
theorem WSt.flush {c : Nat} {M : Mi} {rd : Nat → ByteArray} (h : WSt c M rd) : (M.flush).1 = 0 ∧ WSt 0 (M.flush).2 rd ∧ (M.flush).2.reps = M.reps ∧ (M.flush).2.bl = M.bl := by
  obtain ⟨M', e, g, a, r, b, t, o, f⟩ := h.gm.flush
  rw [e]
  exact ⟨rfl, ⟨⟨g.pi, g.nn, g.size, g.blocks, fun d hd => by rw [f d hd]; exact Nat.le_refl _, g.bad⟩, h.sound.alike a, fun d j hd hj => (o d j hd hj).trans (h.both d j hd hj), h.size, fun d hd => by rw [t]; exact h.still d hd⟩, r, b⟩
theorem WSt.openM {c : Nat} {M : Mi} {rd : Nat → ByteArray} (h : WSt c M rd) : WSt c (openM M) rd :=
  ⟨h.gm.openM, openM_sound h.sound, fun d j hd hj => (openM_read h.gm hd _).trans (h.both d j hd hj), h.size, fun s hs => ((open_inv h.gm.pi).2.2.2.1 s hs).trans (h.still s hs)⟩
theorem WSt.heal {c : Nat} {M : Mi} {rd : Nat → ByteArray} (h : WSt c M rd) {i : Nat} (hi : i < 16) : M.heal i (rd i) = (0, M) := by
  unfold Mi.heal Mi.healS
  simp only
  rw [if_pos (h.both 0 i (by decide) hi)]
  simp only
  rw [if_pos (h.both 1 i (by decide) hi)]
  rfl
theorem WSt.imgs {c : Nat} {M : Mi} {rd : Nat → ByteArray} (h : WSt c M rd) {i : Nat} (hi : i < 16) : M.imgs i = [rd i, rd i] := by
  unfold Mi.imgs
  rw [h.both 0 i (by decide) hi, h.both 1 i (by decide) hi]
  rfl
theorem WSt.fine {c : Nat} {M : Mi} {rd : Nat → ByteArray} (h : WSt c M rd) : Fine 16 192 c M.P := h.gm.fine
def RecsIn (rd : Nat → ByteArray) : LogE → List (List UpdE) → Prop
  | _, [] => True
  | L, us :: rs => YesRec L us (rd (L.block L.next)) ∧ (∀ u ∈ us, u.Ok) ∧ us ≠ [] ∧ us.length ≤ 1000 ∧ L.have_ < L.count ∧ L.next + 1 < 18446744073709551616 ∧ L.block L.next < 16 ∧ RecsIn rd (L.took us) rs
theorem RecsIn.opens {c : Nat} {M : Mi} {rd : Nat → ByteArray} (h : WSt c M rd) (hc : c ≤ 600000) (hr : M.reps < 900000000) : ∀ (rs : List (List UpdE)) (L : LogE), RecsIn rd L rs →
    ((L.tooks rs).have_ = (L.tooks rs).count ∨ (L.tooks rs).have_ < (L.tooks rs).count ∧ (L.tooks rs).block (L.tooks rs).next < 16 ∧ NoRec (L.tooks rs) (rd ((L.tooks rs).block (L.tooks rs).next))) → Opens 16 192 M L rs M (L.tooks rs)
  | [], L, _, he => by
    refine ⟨rfl, rfl, ?_⟩
    rcases he with he | ⟨h1, h2, h3⟩
    · exact .inl he
    · refine .inr ⟨h1, c, h.fine, hc, fun y hy => ?_⟩
      change y ∈ M.imgs (L.block L.next) at hy
      rw [h.imgs (i := L.block L.next) h2] at hy
      rcases List.mem_cons.1 hy with rfl | hy
      · exact h3
      · rw [List.mem_singleton.1 hy]; exact h3
  | us :: rs, L, ⟨k1, k2, k3, k4, k5, k6, k7, k8⟩, he => by
    refine ⟨k5, k6, c, [], rd (L.block L.next), [rd (L.block L.next)], h.fine, hc, hr, h.size _ k7, h.imgs k7, fun v hv => (by cases hv), k1, k2, k3, k4, ?_⟩
    rw [h.heal k7]
    exact RecsIn.opens h hc hr rs (L.took us) k8 he
theorem block_ne {f c a b : Nat} (h1 : a < b) (h2 : b < a + c) : f + a % c ≠ f + b % c := by
  intro e
  have e2 : a % c = b % c := by omega
  have h3 := Nat.div_add_mod a c
  have h4 := Nat.div_add_mod b c
  rw [e2] at h3
  have h5 : c * (a / c) < c * (b / c) := by omega
  have h6 : a / c < b / c := Nat.lt_of_mul_lt_mul_left h5
  have h7 : c * (a / c + 1) ≤ c * (b / c) := Nat.mul_le_mul_left c h6
  rw [Nat.mul_add, Nat.mul_one] at h7
  omega
theorem tooks_more : ∀ (rs : List (List UpdE)) (L : LogE), (L.tooks rs).next = L.next + rs.length
  | [], L => rfl
  | us :: rs, L => by
    show ((L.took us).tooks rs).next = _
    rw [tooks_more rs (L.took us)]
    show L.next + 1 + rs.length = L.next + (rs.length + 1)
    omega
theorem RecsIn.other {rd : Nat → ByteArray} {i : Nat} {X : ByteArray} : ∀ (rs : List (List UpdE)) (L : LogE), RecsIn rd L rs → (∀ j, j < rs.length → L.block (L.next + j) ≠ i) → RecsIn (updR rd i X) L rs
  | [], L, _, _ => trivial
  | us :: rs, L, ⟨k1, k2, k3, k4, k5, k6, k7, k8⟩, hn => by
    refine ⟨?_, k2, k3, k4, k5, k6, k7, RecsIn.other rs (L.took us) k8 (fun j hj => ?_)⟩
    · have := hn 0 (by simp)
      unfold updR
      rw [if_neg (by simpa using this)]
      exact k1
    · have := hn (j + 1) (by simp; omega)
      show L.block (L.next + 1 + j) ≠ i
      rw [show L.next + 1 + j = L.next + (j + 1) by omega]
      exact this
theorem RecsIn.snoc {rd : Nat → ByteArray} {us : List UpdE} : ∀ (rs : List (List UpdE)) (L : LogE), RecsIn rd L rs → YesRec (L.tooks rs) us (rd ((L.tooks rs).block (L.tooks rs).next)) → (∀ u ∈ us, u.Ok) → us ≠ [] → us.length ≤ 1000 → (L.tooks rs).have_ < (L.tooks rs).count → (L.tooks rs).next + 1 < 18446744073709551616 → (L.tooks rs).block (L.tooks rs).next < 16 → RecsIn rd L (rs ++ [us])
  | [], _L, _, h1, h2, h3, h4, h5, h6, h7 => ⟨h1, h2, h3, h4, h5, h6, h7, trivial⟩
  | v :: rs, L, ⟨k1, k2, k3, k4, k5, k6, k7, k8⟩, h1, h2, h3, h4, h5, h6, h7 => ⟨k1, k2, k3, k4, k5, k6, k7, RecsIn.snoc rs (L.took v) k8 h1 h2 h3 h4 h5 h6 h7⟩
def BelowR (rd : Nat → ByteArray) (n : Nat) : Prop := ∀ i, i < 16 → openL (rd i).toList = none ∨ ∃ h l, openL (rd i).toList = some (h, l) ∧ h.gen < n
theorem BelowR.no {rd : Nat → ByteArray} {L : LogE} (h : BelowR rd L.next) (hi : L.block L.next < 16) : NoRec L (rd (L.block L.next)) := by
  rcases h _ hi with h | ⟨hd, l, h1, h2⟩
  · exact .inl h
  · exact .inr ⟨hd, l, h1, fun ⟨_, _, h3⟩ => by omega⟩
theorem BelowR.mono {rd : Nat → ByteArray} {n m : Nat} (h : BelowR rd n) (hm : n ≤ m) : BelowR rd m := fun i hi => by
  rcases h i hi with h | ⟨hd, l, h1, h2⟩
  · exact .inl h
  · exact .inr ⟨hd, l, h1, by omega⟩
theorem BelowR.zero (n : Nat) : BelowR (fun _ => bA (zerosL 192)) n := fun i _ => .inl (by rw [bA_list]; exact open_zeros 192)
theorem BelowR.upd {rd : Nat → ByteArray} {L : LogE} {us : List UpdE} {X : ByteArray} (h : BelowR rd L.next) (hX : YesRec L us X) (i : Nat) : BelowR (updR rd i X) (L.next + 1) := fun j hj => by
  unfold updR
  by_cases hji : j = i
  · rw [if_pos hji]
    exact .inr ⟨_, _, hX, by show L.next < L.next + 1; omega⟩
  · rw [if_neg hji]
    exact h.mono (by omega) j hj
/-- The log since its last cut. -/
structure LSt (rd : Nat → ByteArray) (L0 L : LogE) (rs : List (List UpdE)) : Prop where
  ok0 : L0.Ok
  have0 : L0.have_ = 0
  first : L0.first = 3
  count : L0.count = 5
  last : L0.tooks rs = L
  recs : RecsIn rd L0 rs
  below : BelowR rd L.next
  ok : L.Ok
section
variable {rd : Nat → ByteArray} {L0 L : LogE} {rs : List (List UpdE)}
theorem LSt.facts (h : LSt rd L0 L rs) : L.first = 3 ∧ L.count = 5 ∧ L.have_ = rs.length ∧ L.next = L0.next + rs.length ∧ L.block L.next < 16 := by
  obtain ⟨h1, h2, h3⟩ := tooks_first rs L0
  have h4 := tooks_more rs L0
  rw [h.last] at h1 h2 h3 h4
  rw [h.have0] at h3
  have e1 := h1.trans h.first
  have e2 := h2.trans h.count
  refine ⟨e1, e2, by omega, h4, ?_⟩
  unfold LogE.block
  rw [e1, e2]
  have := Nat.mod_lt L.next (show 0 < 5 by decide)
  omega
theorem LSt.opens (h : LSt rd L0 L rs) {c : Nat} {M : Mi} (hw : WSt c M rd) (hc : c ≤ 600000) (hr : M.reps < 900000000) : Opens 16 192 M L0 rs M L := by
  obtain ⟨h1, h2, h3, h4, h5⟩ := h.facts
  have key := RecsIn.opens hw hc hr rs L0 h.recs
  rw [h.last] at key
  refine key ?_
  have := h.ok.have_
  by_cases he : L.have_ = L.count
  · exact .inl he
  · exact .inr ⟨by omega, h5, h.below.no h5⟩
theorem LSt.append (h : LSt rd L0 L rs) {us : List UpdE} {X : ByteArray} (hX : YesRec L us X) (h1 : ∀ u ∈ us, u.Ok) (h2 : us ≠ []) (h3 : us.length ≤ 1000) (h4 : L.have_ < L.count) (h5 : L.next + 1 < 18446744073709551616) : LSt (updR rd (L.block L.next) X) L0 (L.took us) (rs ++ [us]) := by
  obtain ⟨f1, f2, f3, f4, f5⟩ := h.facts
  refine ⟨h.ok0, h.have0, h.first, h.count, by rw [LogE.tooks_snoc, h.last], ?_, h.below.upd hX _, took_ok h.ok h4 h5⟩
  refine RecsIn.snoc rs L0 (RecsIn.other rs L0 h.recs (fun j hj => ?_)) ?_ h1 h2 h3 ?_ ?_ ?_
  · have e : L.block L.next = L0.block (L0.next + rs.length) := by
      unfold LogE.block
      rw [f1, f2, f4, h.first, h.count]
    rw [e]
    unfold LogE.block
    rw [h.count]
    exact block_ne (by omega) (by omega)
  all_goals rw [h.last]
  · unfold updR; rw [if_pos rfl]; exact hX
  · exact h4
  · exact h5
  · exact f5
def LogE.cut (L : LogE) : LogE := ⟨L.first, L.count, L.next + L.count, L.chain, 0⟩
theorem LSt.cut (h : LSt rd L0 L rs) (h5 : L.next + L.count < 18446744073709551616) : LSt rd L.cut L.cut [] := by
  obtain ⟨f1, f2, f3, f4, f5⟩ := h.facts
  have ok : L.cut.Ok := ⟨h.ok.first, h.ok.count1, h.ok.count2, h5, h.ok.chain, Nat.zero_le _⟩
  exact ⟨ok, rfl, f1, f2, rfl, trivial, h.below.mono (by show L.next ≤ L.next + L.count; omega), ok⟩
/-- A log anew from the first record's number on. -/
theorem LSt.again (h : LSt rd L0 L rs) : LSt rd L0 L rs := h
theorem LSt.fresh {s k : Nat} (hs : s < 18446744073709551616) (hk : k < 4294967296) : LSt (fun _ => bA (zerosL 192)) ⟨3, 5, s, k, 0⟩ ⟨3, 5, s, k, 0⟩ [] :=
  have ok : LogE.Ok ⟨3, 5, s, k, 0⟩ := ⟨(by decide : 3 ≤ 5000), (by decide : 2 ≤ 5), (by decide : 5 ≤ 256), hs, hk, (by decide : 0 ≤ 5)⟩
  ⟨ok, rfl, rfl, rfl, rfl, trivial, BelowR.zero _, ok⟩
end
end Go.Proofs.YtnpfhfgegjocoaaGreat
/- law13: the log over a sound mirror: opened, appended to, synced. -/
namespace Go.Proofs.YtnpfhfgegjocoaaGreat
open Go.RowKit

section
variable {W w w' : World} {F : List Nat} {x : Nat → Nat} {b p tk lb : Nat} {M : Mi} {L0 L : LogE} {rs : List (List UpdE)} {c : Nat} {rd : Nat → ByteArray}
theorem kOpen (h : OwnM W F w b p x M) (hw : WSt c M rd) (hs : LSt rd L0 L rs) (hc : c ≤ 600000) (hr : M.reps < 900000000) {n k : Nat} (hn : L0.next = n) (hk : L0.chain = k) :
    Calls Tryz.prog 48 #[.pointer (some ⟨b, 0, none⟩), .agg #[.int .i64 3, .int .i64 5], .int .u64 (n : Nat), .int .u32 (k : Nat)] w fun e w' => ∃ lb tk A cap, e = .returned (.tuple #[.pointer (some ⟨lb, 0, none⟩), .slice A rs.length cap, .int .i64 0]) ∧
      Hid (∃ F' K rb base, OpIn W w' F' K x b p tk lb rb base M L0 L rs (.slice A rs.length cap) ∧ ∀ g ∈ F, g ∈ F') ∧ Hid (Minds F w w') ∧ Hid (w.heap.size ≤ lb) := by
  have h1 := hs.first
  have h2 := hs.count
  have key := lgOpen_any h hw.fine (by decide) hs.ok0 hs.have0 (by rw [h1, h2]; decide) (hs.opens hw hc hr)
  rw [h1, h2, hn, hk] at key
  exact key
theorem kApp (h : LgIn W w F x b p tk lb M L) (hw : WSt c M rd) (hs : LSt rd L0 L rs) (hc : c ≤ 600000) (hh : rs.length < 5) (hn1 : L.next + 1 < 18446744073709551616)
    {A : Option Addr} {len cap : Nat} {us : List UpdE} (hr : Row w A (uRow us)) (hlen : us.length = len) (hl : len ≤ 1000) (hl0 : 0 < len) (hd : ∀ u ∈ us, u.Ok) (hroom : (recL us).length ≤ 154) (hA : ∀ a, A = some a → a.block ∈ F ∧ a.block ≠ lb) :
    Calls Tryz.prog 53 #[.pointer (some ⟨lb, 0, none⟩), .slice A len cap] w fun e w' => ∃ M' rd', e = .returned (.int .i64 0) ∧ Hid (WSt (c + 2) M' rd') ∧ Hid (LSt rd' L0 (L.took us) (rs ++ [us])) ∧ Hid (LgIn W w' F x b p tk lb M' (L.took us)) ∧ Hid (M'.reps = M.reps) ∧ Hid (∀ G, (∀ k ∈ G, k ∈ F ∧ k ≠ lb) → Minds G w w') := by
  obtain ⟨f1, f2, f3, f4, f5⟩ := hs.facts
  have hlt : L.have_ < L.count := by omega
  refine (lgApp_ok h hw.fine (by omega) hs.ok hlt hn1 f5 (by decide) (by decide) (by decide) hr hlen hl hl0 hd hroom hA (fun X hX => (hw.write f5 hX).1)).mono fun e w' ⟨X, h1, h2, h3, h4⟩ => ?_
  obtain ⟨_, k2, k3, _⟩ := hw.write f5 h2.out.1
  exact ⟨_, _, h1, Lib.hid k2, Lib.hid (hs.append h2.out.2 hd (fun e => by rw [e] at hlen; simp at hlen; omega) (by omega) hlt hn1), h3, Lib.hid k3, h4⟩
theorem kSync (h : LgIn W w F x b p tk lb M L) (hw : WSt c M rd) (hc : c ≤ 600000) :
    Calls Tryz.prog 54 #[.pointer (some ⟨lb, 0, none⟩)] w fun e w' => ∃ M', e = .returned (.int .i64 0) ∧ Hid (WSt 0 M' rd) ∧ Hid (LgIn W w' F x b p tk lb M' L) ∧ Hid (M'.reps = M.reps) ∧ Hid (Minds F w w') := by
  obtain ⟨k1, k2, k3, _⟩ := hw.flush
  refine (lgSync_any h hw.fine (by omega)).mono fun e w' ⟨h1, h2, h3⟩ => ?_
  rw [k1] at h1
  exact ⟨_, h1, Lib.hid k2, h2, Lib.hid k3, h3⟩
/-- The records that Open told, in memory. -/
theorem OpIn.rec0 {K : List Nat} {rb base : Nat} {A : Option Addr} {cap : Nat} {us : List UpdE} (h : OpIn W w F K x b p tk lb rb base M L0 L (us :: rs) (.slice A (rs.length + 1) cap)) : ∃ g A1 c1, A = some ⟨g, 0, none⟩ ∧ w.cell? ⟨g, 0, none⟩ = some (.int .u64 (L0.next : Nat)) ∧ w.cell? ⟨g, 1, none⟩ = some (.int .u32 (L0.chain : Nat)) ∧ w.cell? ⟨g, 2, none⟩ = some (.slice A1 us.length c1) ∧ Row w A1 (uRow us) := by
  obtain ⟨cs, h1, h2⟩ := h.row
  obtain ⟨A1, c1, rest, rfl, k1, _⟩ := h2
  have h0 := h1
  obtain ⟨_, h3⟩ := h1
  rcases h3 with ⟨_, h3⟩ | ⟨g, cap2, cur, hv, _⟩
  · cases h3
  · injection hv with e1 e2 e3
    subst e1
    refine ⟨g, A1, c1, rfl, ?_, ?_, ?_, k1⟩
    · have := h0.cells (g := g) rfl 0 _ rfl
      rw [addr_add] at this
      exact this
    · have := h0.cells (g := g) rfl 1 _ rfl
      rw [addr_add] at this
      exact this
    · have := h0.cells (g := g) rfl 2 _ rfl
      rw [addr_add] at this
      exact this
def us0 : List UpdE := [⟨2, ⟨#[97]⟩, ⟨#[]⟩, 0⟩]
theorem us0_ok : ∀ u ∈ us0, u.Ok := fun u hu => by
  rw [List.mem_singleton.1 hu]
  exact ⟨by decide, by decide, by decide, by decide, by decide, fun _ => rfl, by decide, fun _ => rfl⟩
theorem us0_len : (recL us0).length ≤ 154 := by
  unfold recL us0 updL joinL
  simp
end
end Go.Proofs.YtnpfhfgegjocoaaGreat
namespace Go.Proofs.YtnpfhfgegjocoaaGreat
open Go.RowKit

set_option maxRecDepth 100000 in
set_option maxHeartbeats 6400000 in
theorem w13Wakes_any {W : World} : Calls Tryz.prog 52 #[] W fun e w' => e = .returned (.bool true) ∧ Hid (Mods [] W w') := by
  go_enter Tryz.func52, Tryz.ntmps52
  go_upto_region 1 with fail
  go_wp2_with fail
  refine w13Fresh_any.mono ?_
  rintro e w1 ⟨x, p, b, M, rfl, HO, HG⟩
  go_upto_region 2 with fail
  obtain ⟨w2, hw2⟩ : ∃ w2, w1.alloc (.cells #[.pointer (some ⟨x 0, 0, none⟩), .pointer (some ⟨x 1, 0, none⟩)] 50) = w2 := ⟨_, rfl⟩
  obtain ⟨db, hdb⟩ : ∃ db, w1.heap.size = db := ⟨_, rfl⟩
  have hb2 : Blk w2 db 50 [.pointer (some ⟨x 0, 0, none⟩), .pointer (some ⟨x 1, 0, none⟩)] := by rw [← hw2, ← hdb]; exact Blk.new w1 50 _
  have hm2 : Mods [] w1 w2 := by rw [← hw2]; exact (Mods.refl _ _).alloc _
  have HO2 : Hid (OwnM W [db] w2 b p x M) := Lib.hid (HO.out.protect hm2 (fun g hg => .inr (by have := hb2.lt; have := List.mem_singleton.1 hg; omega)))
  rw [hw2, hdb]
  have HB2 := Lib.hid hb2
  have HDL := Lib.hid hb2.lt
  have HW := Lib.hid (WSt.fresh HG.out)
  have HR := Lib.hid HG.out.reps
  clear hw2 hdb hb2 hm2 HO HG
  have HS := Lib.hid (LSt.fresh (s := 7) (k := 9) (by decide) (by decide))
  have cO := Lib.hid (fun (w : World) (hm : Mods [] w2 w) => show Calls Tryz.prog 48 #[.pointer (some ⟨b, 0, none⟩), .agg #[.int .i64 3, .int .i64 5], .int .u64 7, .int .u32 9] w _ from kOpen (HO2.out.still hm) HW.out HS.out (by decide) (by rw [HR.out]; decide) (n := 7) (k := 9) rfl rfl)
  go_upto_region 3 with (first | (go_at_call 49; refine w13Ring_any.mono ?_; rintro e w3 ⟨rfl, HM3⟩) | (go_at_call 48; refine (cO.out _ HM3.out).mono ?_; rintro e w4 ⟨lb, tk, A, cap, rfl, HOP, HN4, HLB⟩) | fail)
  obtain ⟨F', K, rb, base, HIN, HFF⟩ : ∃ F' K rb base, Hid (OpIn W w4 F' K x b p tk lb rb base M ⟨3, 5, 7, 9, 0⟩ ⟨3, 5, 7, 9, 0⟩ [] (.slice A 0 cap)) ∧ Hid (∀ g ∈ [db], g ∈ F') := by
    obtain ⟨F', K, rb, base, h1, h2⟩ := HOP.out
    exact ⟨F', K, rb, base, Lib.hid h1, Lib.hid h2⟩
  have HB4 := Lib.hid (HN4.out.blk (HB2.out.keep HM3.out (by simp)) (by simp))
  clear HOP HN4 cO HB2 HO2
  -- appended
  have cA := Lib.hid (kApp (w := w4.alloc (.cells #[.int .u8 2, .string ⟨#[97]⟩, .string ⟨#[]⟩, .int .u64 0] 113)) (HIN.out.lg.protect (G := [w4.heap.size]) ((Mods.refl _ _).alloc _) (fun k hk => by rw [List.mem_singleton.1 hk]; exact ⟨Nat.le_refl _, by simp⟩)) HW.out HS.out (by decide) (by decide) (by decide) (A := some ⟨w4.heap.size, 0, none⟩) (len := 1) (cap := 1) (us := us0)
    (.inr ⟨w4.heap.size, 0, rfl, fun i u hi => by rw [Nat.zero_add]; exact (Blk.new w4 113 (uRow us0)).cell hi⟩) rfl (by decide) (by decide) us0_ok us0_len (fun a ha => by cases ha; exact ⟨by simp, by have := HIN.out.lg.lg.lt; show w4.heap.size ≠ lb; omega⟩))
  go_upto_region 4 with (go_at_call 53; refine cA.out.mono ?_; rintro e w6 ⟨M1, rd1, rfl, HW1, HS1, HL1, HR1, HN6⟩)
  have hdl : db ≠ lb := by have h1 := HM3.out.size; have h2 := HDL.out; have h3 := HLB.out; omega
  have HB6 := Lib.hid ((HN6.out [db] (fun k hk => by rw [List.mem_singleton.1 hk]; exact ⟨List.mem_append_right _ (HFF.out _ (by simp)), hdl⟩)).blk (HB4.out.alloc _) (by simp))
  clear cA HN6 HB4 HW HS
  have cS := Lib.hid (kSync HL1.out HW1.out (by decide))
  go_upto_region 5 with (go_at_call 54; refine cS.out.mono ?_; rintro e w7 ⟨M2, rfl, HW2, HL2, HR2, HN7⟩)
  have HB7 := Lib.hid (HN7.out.blk HB6.out (List.mem_append_right _ (HFF.out _ (by simp))))
  have z0 := HB7.out.cell (i := 0) rfl
  have z1 := HB7.out.cell (i := 1) rfl
  have cG := Lib.hid (w13Again_any HL2.out.own HW2.out.gm (by decide))
  clear HL1 HW1 HB6 HN7 cS
  go_upto_region 6 with (go_at_call 57; refine cG.out.mono ?_; rintro e w8 ⟨b2, p2, G, rfl, HO8, HRS8, HN8⟩)
  obtain ⟨F2, hF2⟩ : ∃ F2, [w4.heap.size] ++ F' = F2 := ⟨_, rfl⟩
  rw [hF2] at HL2 HO8 HRS8 HN8
  obtain ⟨L1, hL1⟩ : ∃ L1, (⟨3, 5, 7, 9, 0⟩ : LogE).took us0 = L1 := ⟨_, rfl⟩
  have HL1E : Hid (L1.next = 8 ∧ L1.count - L1.have_ = 4) := Lib.hid (by rw [← hL1]; exact ⟨rfl, rfl⟩)
  rw [hL1] at HL2 HS1
  clear z0 z1 HB7 cG HDL HLB HFF hF2 hL1 HIN hdl
  have cO2 := Lib.hid (fun (w : World) (hm : Mods [] w8 w) => show Calls Tryz.prog 48 #[.pointer (some ⟨b2, 0, none⟩), .agg #[.int .i64 3, .int .i64 5], .int .u64 7, .int .u32 9] w _ from kOpen (HO8.out.still hm) HW2.out.openM HS1.out (by decide) (by show (0 : Nat) < 900000000; decide) (n := 7) (k := 9) rfl rfl)
  go_upto_region 7 with (first | (go_at_call 49; refine w13Ring_any.mono ?_; rintro e w9 ⟨rfl, HM9⟩) | (go_at_call 48; refine (cO2.out _ HM9.out).mono ?_; rintro e w10 ⟨lb2, tk2, A2, cap2, rfl, HOP2, HN10, HLB2⟩) | fail)
  obtain ⟨F3, K3, rb3, base3, HIN3, HFF3⟩ : ∃ F3 K3 rb3 base3, Hid (OpIn W w10 F3 K3 x b2 p2 tk2 lb2 rb3 base3 (openM M2) ⟨3, 5, 7, 9, 0⟩ L1 [us0] (.slice A2 1 cap2)) ∧ Hid (∀ g ∈ G ++ F2, g ∈ F3) := by
    obtain ⟨F', K, rb, base, h1, h2⟩ := HOP2.out
    exact ⟨F', K, rb, base, Lib.hid h1, Lib.hid h2⟩
  have HMD : Hid (Minds (G ++ F2) w8 w10) := Lib.hid ((Minds.of HM9.out).trans HN10.out)
  have HBL : Hid (Blk w10 lb 214 (lgC b tk L1)) := Lib.hid (HMD.out.blk (HN8.out.blk HL2.out.lg HL2.out.mem.2) (List.mem_append_right _ HL2.out.mem.2))
  have HRM : Hid (OpIn W w10 F3 K3 x b2 p2 tk2 lb2 rb3 base3 (openM M2) ⟨3, 5, 7, 9, 0⟩ L1 [us0] (.slice A2 1 cap2) → OwnM W [] w10 b p x M2) := Lib.hid (fun h => (HRS8.out.1.keep HMD.out (fun g hg => List.mem_append_left _ hg)).own h.lg.own (fun g hg => ⟨HFF3.out g (List.mem_append_left _ hg), (HRS8.out.2 g hg).1⟩) (by simp) rfl)
  have HOM := Lib.hid (HRM.out HIN3.out)
  obtain ⟨g3, A3, c3, rfl, _, _, _, _⟩ := HIN3.out.rec0
  have HY : Hid (∀ w, Mods [] w10 w → w.cell? ⟨g3, 0, none⟩ = some (.int .u64 7) ∧ w.cell? ⟨g3, 1, none⟩ = some (.int .u32 9)) := Lib.hid (fun w hm => by
    obtain ⟨g', A', c', e, y0, y1, _⟩ := (HIN3.out.calm hm).rec0
    injection e with e
    injection e with e
    subst e
    exact ⟨y0, y1⟩)
  clear HMD HRM HN8 HRS8 HO8 HN10 HM9 HOP2 HFF3 cO2
  have cN := Lib.hid (lgNext_any HBL.out)
  have cL := Lib.hid (fun (w : World) (hm : Mods [] w10 w) => lgLeft_any (HBL.out.keep hm (by simp)) HS1.out.ok)
  have cR := Lib.hid (fun (w : World) (hm : Mods [] w10 w) => lgRoom_any (HOM.out.still hm) HW2.out.fine (HBL.out.keep hm (by simp)) (by decide) (by decide))
  rw [HL1E.out.1] at cN
  rw [HL1E.out.2] at cL
  go_upto_region 8 with (go_at_call 50; refine cN.out.mono ?_; rintro e w11 ⟨rfl, HM11⟩)
  obtain ⟨y0, y1⟩ := HY.out w11 HM11.out
  clear cN HY
  go_wp2_with (first | (go_at_call 55; refine (cL.out _ HM11.out).mono ?_; rintro e w12 ⟨rfl, HM12⟩) | (go_at_call 56; refine (cR.out _ (HM11.out.tr HM12.out)).mono ?_; rintro e w13 ⟨rfl, HM13⟩) | fail)
  go_ret
  exact ⟨rfl, Lib.hid (HIN3.out.lg.own.mods.trans ((HM11.out.tr HM12.out).tr HM13.out) (by simp))⟩
end Go.Proofs.YtnpfhfgegjocoaaGreat
