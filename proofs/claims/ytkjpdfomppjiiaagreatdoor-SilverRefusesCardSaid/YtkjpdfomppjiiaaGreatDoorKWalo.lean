/- law13: the log over a sound mirror: opened, appended to, synced. -/
import Derived.Test.YtkjpdfomppjiiaaGreatDoorKWal
import Derived.Deep.CutRange
import Derived.Test.YtkjpdfomppjiiaaGreatDoorKI
/- The log: it is opened. -/
namespace Go.Proofs.YtkjpdfomppjiiaaGreatDoor
open Go.RowKit

theorem info_rec : (Tryz.prog.info? 180).map (fun i => (i.zero, i.size, i.bytes)) = some (some (.agg #[.int .u64 0, .int .u32 0, .slice none 0 0]), 3, 40) := by kernel_rfl
def slN : Value → Nat
 | .slice _ n _ => n
 | _ => 0
theorem slN_of {w : World} {base : Nat} {e : TypeId} {s n : Nat} {v : Value} {xs : List Value} (h : w.ownsRow base e s v n xs) : ∃ A cap, v = .slice A n cap := by
 rcases h.2 with ⟨rfl, rfl⟩ | ⟨g, cap, cur, rfl, _⟩
 ·exact ⟨none, 0, rfl⟩
 ·exact ⟨_, cap, rfl⟩
theorem ringE_ok {B f k : Nat} (h : ringE B (f : Int) (k : Int) = 0) : f + k ≤ B := by
 unfold ringE at h
 split at h
 ·cases h
 ·omega
theorem cells_new3 (w : World) (a b c : Value) (t : TypeId) (g : Nat) (hg : w.heap.size = g) : ∀ j u, [a, b, c][j]? = some u → (w.alloc (.cells #[a, b, c] t)).cell? ((⟨g, 0, none⟩ : Addr).add j) = some u := by
 intro j u hu
 subst hg
 have := (Blk.new w t [a, b, c]).cell hu
 rw [addr_add, Nat.zero_add]
 exact this
set_option linter.unusedVariables false in
theorem app_facts {w0 wa w8 : World} {F F' G K : List Nat} {A A13 : Option Addr} {n cap13 g5 rb base wrs : Nat} {tk lb b p : Nat} {x : Nat → Nat} {W : World} {M : Mi} {L0 L : LogE} {rs : List (List UpdE)} {us : List UpdE} {cells : List Value}
  (hg3 : wa.grownBy w8 (Value.slice A13 n cap13).ownBlock) (HOW : Hid (∀ g, (Value.slice A13 n cap13).ownBlock = some g → g ≠ lb ∧ g ≠ tk ∧ g < g5 ∧ w0.heap.size ≤ g ∧ g ∈ F')) (HGA : Hid (Blk wa g5 180 cells)) (HAA : Hid (Row wa A (uRow us))) (HAG : Hid (∀ a, A = some a → a.block < g5 ∧ wrs ≤ a.block)) (HLT : Hid (∀ g ∈ F', g < wrs))
  (HOA : Hid (OpIn W wa G K x b p tk lb rb base M L0 L rs (.slice A13 n cap13))) (HFL : Hid (∀ g ∈ F, g < w0.heap.size)) :
  Hid (Mods (match (Value.slice A13 n cap13).ownBlock with | some g => [g] | none => []) wa w8) ∧ Hid (Minds F wa w8) ∧ Hid (Blk w8 g5 180 cells) ∧ Hid (Row w8 A (uRow us)) ∧ Hid (Blk w8 lb 178 (lgC b tk L)) ∧ Hid (Blk w8 tk 218 sumRow) := by
 have hm : Mods (match (Value.slice A13 n cap13).ownBlock with | some g => [g] | none => []) wa w8 := Mods.grown (Mods.refl _ _) hg3 (fun k hk => .inl (by rw [hk]; simp))
 obtain ⟨N, hN, hm8⟩ : ∃ N, (∀ k ∈ N, (Value.slice A13 n cap13).ownBlock = some k) ∧ Mods N wa w8 := by
  refine ⟨_, fun k hk => ?_, hm⟩
  cases hv : (Value.slice A13 n cap13).ownBlock with
  | none => rw [hv] at hk; cases hk
  | some g0 => rw [hv] at hk; rw [List.mem_singleton.1 hk]
 refine ⟨Lib.hid hm, Lib.hid ⟨N, hm8, fun k hk hx => ?_⟩, Lib.hid (HGA.out.keep hm8 (fun hx => ?_)), Lib.hid (HAA.out.keep hm8 (fun a ha hx => ?_)), Lib.hid (HOA.out.lg.lg.keep hm8 (fun hx => (HOW.out _ (hN _ hx)).1 rfl)), Lib.hid (HOA.out.lg.sum.keep hm8 (fun hx => (HOW.out _ (hN _ hx)).2.1 rfl))⟩
 ·have h1 := (HOW.out _ (hN _ hk)).2.2.2.1
  have h2 := HFL.out k hx
  omega
 ·have h1 := (HOW.out _ (hN _ hx)).2.2.1
  omega
 ·have h1 := HOW.out _ (hN _ hx)
  have h2 := (HAG.out a ha).2
  have h3 := HLT.out _ h1.2.2.2.2
  omega
section
variable {W w w' : World} {F : List Nat} {x : Nat → Nat} {b p : Nat} {M M2 : Mi} {L0 L2 : LogE} {B z c : Nat}
set_option maxRecDepth 100000 in
set_option maxHeartbeats 6400000 in
theorem lgOpen_any (h : OwnM W F w b p x M) (hF0 : Fine B z c M.P) (hB : B ≤ 5000) (hL : L0.Ok) (hh : L0.have_ = 0) (hrg : ringE B (L0.first : Int) (L0.count : Int) = 0) {rs : List (List UpdE)} (hop : Opens B z M L0 rs M2 L2) :
  Calls Tryz.prog 41 #[.pointer (some ⟨b, 0, none⟩), .agg #[.int .i64 (L0.first : Nat), .int .i64 (L0.count : Nat)], .int .u64 (L0.next : Nat), .int .u32 (L0.chain : Nat)] w fun e w' => ∃ lb tk A cap, e = .returned (.tuple #[.pointer (some ⟨lb, 0, none⟩), .slice A rs.length cap, .int .i64 0]) ∧
   Hid (∃ F' K rb base, OpIn W w' F' K x b p tk lb rb base M2 L0 L2 rs (.slice A rs.length cap) ∧ ∀ g ∈ F, g ∈ F') ∧ Hid (Minds F w w') ∧ Hid (w.heap.size ≤ lb) := by
 obtain ⟨w0, hw0⟩ : ∃ w0, w.alloc (.cells #[.int .i64 (L0.first : Nat), .int .i64 (L0.count : Nat)] 98) = w0 := ⟨_, rfl⟩
 obtain ⟨rb, hrb⟩ : ∃ rb, w.heap.size = rb := ⟨_, rfl⟩
 have hm0 : Mods [] w w0 := by rw [← hw0]; exact (Mods.refl _ _).alloc _
 have hR0 : Blk w0 rb 98 [.int .i64 (L0.first : Nat), .int .i64 (L0.count : Nat)] := by rw [← hw0, ← hrb]; exact Blk.new w 98 _
 have cC := Lib.hid (rgCheck_any (h.still hm0) hF0 hB (L0.first : Int) (L0.count : Int))
 rw [hrg] at cC
 have HO := Lib.hid h
 have HR0 := Lib.hid hR0
 have HM0 := Lib.hid hm0
 have HOP := Lib.hid hop
 have HLO := Lib.hid hL
 have HH := Lib.hid hh
 have c0 := hR0.cell (i := 0) rfl
 have c1 := hR0.cell (i := 1) rfl
 have HFL : Hid (∀ g ∈ F, g < w.heap.size) := Lib.hid h.lt
 have HBK : Hid (∀ L' : LogE, L'.first = L0.first → L'.count = L0.count → L'.Ok → L'.block L'.next < B ∧ L'.first ≤ 5000) := Lib.hid (fun L' e1 e2 hk => by
  have h1 := ringE_ok hrg
  have h2 := hk.count1
  have h3 := Nat.mod_lt L'.next (show 0 < L'.count by omega)
  unfold LogE.block
  refine ⟨by omega, hk.first⟩)
 clear h hF0 hm0 hR0 hop hL hrg hh
 go_enter Tryz.func41, Tryz.ntmps41
 go_upto_region 1 with fail
 try rw [hw0, hrb]
 clear hw0
 go_upto_region 4 with (go_at_call 85; refine cC.out.mono ?_; rintro e w1 ⟨rfl, HM1⟩)
 have HR1 := Lib.hid (HR0.out.keep HM1.out (by simp))
 have HMM1 := Lib.hid (HM0.out.trans HM1.out (by simp))
 have d0 := HR1.out.cell (i := 0) rfl
 have d1 := HR1.out.cell (i := 1) rfl
 clear c0 c1 cC HM0 HM1 HR0
 go_cut [12] from 26 to 32 (fun lv wx => ∃ tk lb, lv = .pointer (some ⟨lb, 0, none⟩) ∧ Hid (Mods [] w1 wx) ∧ Hid (Blk wx tk 218 sumRow ∧ Blk wx lb 178 [.pointer (some ⟨b, 0, none⟩), .pointer (some ⟨tk, 0, none⟩), .int .i64 (L0.first : Nat), .int .i64 (L0.count : Nat), .int .u64 (L0.next : Nat), .int .u32 (L0.chain : Nat), .int .i64 0] ∧ w1.heap.size ≤ tk ∧ w1.heap.size ≤ lb ∧ tk ≠ lb))
 case first =>
  go_region_with ((go_at_call 61; refine (sumMake_any _).mono ?_; rintro e w2 ⟨tk, rfl, hT, hm2, htk⟩; have HM2 := Lib.hid (((Mods.refl [] w1).drew).trans hm2 (by simp)); have HR2 := Lib.hid (HR1.out.keep HM2.out (by simp)); have e0 := HR2.out.cell (i := 0) rfl; have e1 := HR2.out.cell (i := 1) rfl; have HT := Lib.hid (And.intro hT htk); clear hT hm2 htk))
  all_goals go_wp2_with fail
  all_goals go_meet
  all_goals exact ⟨tk, w2.heap.size, rfl, Lib.hid (HM2.out.alloc _), Lib.hid ⟨HT.out.1.alloc _, Blk.new w2 178 _, HT.out.2, HM2.out.size, by have := HT.out.1.lt; omega⟩⟩
 case rest =>
  obtain ⟨tk, lb, rfl, HM2, HB2⟩ := hcut
  have hb : Blk wc lb 178 (lgC b tk L0) := by
   have h := HB2.out.2.1
   rw [show lgC b tk L0 = [.pointer (some ⟨b, 0, none⟩), .pointer (some ⟨tk, 0, none⟩), .int .i64 (L0.first : Nat), .int .i64 (L0.count : Nat), .int .u64 (L0.next : Nat), .int .u32 (L0.chain : Nat), .int .i64 (L0.have_ : Nat)] from rfl, HH.out]
   exact h
  have hm2 := HMM1.out.trans HM2.out (by simp)
  have hs1 := HMM1.out.size
  have HOI : Hid (OpIn W wc ([tk, lb, rb] ++ F) [] x b p tk lb rb w.heap.size M L0 L0 [] (.slice none 0 0)) := by
   have l1 := HB2.out.1.lt
   have l2 := hb.lt
   have hr := HR1.out.keep HM2.out (by simp)
   have l3 := hr.lt
   have l4 := HR1.out.lt
   have t1 := HB2.out.2.2.1
   have t2 := HB2.out.2.2.2.1
   refine Lib.hid ⟨⟨HO.out.protect hm2 (fun k hk => ?_), HB2.out.1, hb, ⟨by simp, by simp⟩, ?_, HB2.out.2.2.2.2⟩, hr, ⟨by simp, by omega⟩, ⟨[], World.ownsRow_nil _ _ _ _, rfl⟩, fun k hk => (by cases hk), fun g hg => (by cases hg), rfl, ⟨HO.out.mods.size, hm2.size⟩⟩
   ·simp only [List.cons_append, List.nil_append, List.mem_cons] at hk
    rcases hk with rfl | rfl | rfl | hk
    ·exact .inr ⟨by omega, l1⟩
    ·exact .inr ⟨by omega, l2⟩
    ·exact .inr ⟨by omega, l3⟩
    ·exact .inl hk
   ·have := HO.out.mods.size
    omega
  have HWL : Hid (w.heap.size ≤ lb) := Lib.hid (by have t2 := HB2.out.2.2.2.1; omega)
  have HMM := Lib.hid hm2
  clear hb hm2 HB2 HM2 HMM1 HR1 d0 d1 HO hs1
  go_wp2_with fail
  go_loopw [13] (fun ov wr => ∃ (dn rs' : List (List UpdE)) (M' : Mi) (L' : LogE) (F' K : List Nat), rs = dn ++ rs' ∧ OpIn W wr F' K x b p tk lb rb w.heap.size M' L0 L' dn ov ∧ Opens B z M' L' rs' M2 L2 ∧ L'.Ok ∧ (∀ g ∈ F, g ∈ F') ∧ Minds F w wr) (fun ov _ => rs.length + 1 - slN ov)
  case atStart => exact ⟨[], rs, M, L0, _, [], rfl, HOI.out, HOP.out, HLO.out, fun g hg => List.mem_append_right _ hg, Minds.of HMM.out⟩
  case round =>
   clear HOI HOP HLO HMM
   obtain ⟨dn, rs', M', L', F', K, hrs, hI, hO, hLO, hFF, hMi⟩ := hrel
   obtain ⟨A13, cap13, rfl⟩ : ∃ A cap, u13 = .slice A dn.length cap := by obtain ⟨cs, h1, _⟩ := hI.row; exact slN_of h1
   have HI := Lib.hid hI
   have HFF := Lib.hid hFF
   have HMI := Lib.hid hMi
   have HRS := Lib.hid hrs
   have cLf := Lib.hid (lgLeft_any hI.lg.lg hLO)
   obtain ⟨lf, hlf⟩ : ∃ lf, L'.count - L'.have_ = lf := ⟨_, rfl⟩
   rw [hlf] at cLf
   have hto := tooks_first dn L0
   rw [hI.last, HH.out] at hto
   obtain ⟨ht1, ht2, ht3⟩ := hto
   have hbk := HBK.out L' ht1 ht2 hLO
   have HDN : Hid (dn.length ≤ 256 ∧ L'.have_ = dn.length) := Lib.hid (by have h1 := hLO.have_; have h2 := hLO.count2; omega)
   have HLF := Lib.hid hlf
   have HLO1 := Lib.hid hLO
   clear hI hFF hMi hrs hlf ht3
   cases rs' with
   | nil =>
    obtain ⟨rfl, rfl, hend⟩ := hO
    have hdn : rs = dn := by have h := HRS.out; rw [List.append_nil] at h; exact h
    subst hdn
    rcases hend with hfull | ⟨hlt, c1, hF1, hc1, hno⟩
    ·as_aux_lemma =>
     have hlf0 : lf = 0 := by have := HLF.out; omega
     subst hlf0
     go_wp2_with (go_at_call 86; refine cLf.out.mono ?_; rintro e w3 ⟨rfl, HM3⟩)
     go_ret3
     exact ⟨lb, tk, A13, cap13, rfl, Lib.hid ⟨F', K, rb, w.heap.size, HI.out.calm HM3.out, HFF.out⟩, Lib.hid (HMI.out.tr HM3.out), HWL⟩
    ·as_aux_lemma =>
     have hlf0 : (0 : Int) < (lf : Int) := by have := HLF.out; omega
     have cF := Lib.hid (fun (w3 : World) (hm : Mods [] wr w3) => lgFind_no (HI.out.calm hm).lg hF1 (by omega) hLO hbk.1 hno)
     clear hF1 hno hLO hbk
     go_wp2_with (first | (go_at_call 86; refine cLf.out.mono ?_; rintro e w3 ⟨rfl, HM3⟩) | (go_at_call 87; refine (cF.out _ HM3.out).mono ?_; rintro e w4 ⟨rfl, HL4, HN4⟩) | fail)
     go_ret3
     exact ⟨lb, tk, A13, cap13, rfl, Lib.hid ⟨F', K, rb, w.heap.size, ((HI.out.calm HM3.out).turn HL4.out HN4.out (fun _ h => h)).calm ((Mods.refl _ _).alloc _), HFF.out⟩, Lib.hid ((((HMI.out.tr HM3.out).trans (HN4.out.mono HFF.out))).tr ((Mods.refl _ _).alloc _)), HWL⟩
   | cons us rs2 =>
    as_aux_lemma =>
    obtain ⟨hlt, hn1, ⟨c1, pre, y, post, hF1, hc1, hreps, hys, him, hpre, hyes, hd, hu0, hlen, hOp⟩⟩ := hO
    have hlf0 : (0 : Int) < (lf : Int) := by have := HLF.out; omega
    have cF := Lib.hid (fun (w3 : World) (hm : Mods [] wr w3) => lgFind_yes (HI.out.calm hm).lg hF1 (by omega) hLO hbk.1 hd (by omega) hu0 him hpre hyes)
    have h1 := hLO.first
    have h2 := hLO.count1
    have h3 := hLO.count2
    have cG := Lib.hid (fun W => rgBlock_any (W := W) (s := L'.next) h1 (show 0 < L'.count by omega) h3)
    obtain ⟨kb, hkb⟩ : ∃ kb, L'.block L'.next = kb := ⟨_, rfl⟩
    have hkb2 : L'.first + L'.next % L'.count = kb := hkb
    rw [hkb2, ht1, ht2] at cG
    rw [hkb] at him hOp
    have hkB : kb < B := by rw [← hkb]; exact hbk.1
    have cH := Lib.hid (fun (G : List Nat) (w5 : World) (hl : LgIn W w5 G x b p tk lb M' L') => oHeal hl.own hF1 hc1 hreps hkB hys)
    have cTk := Lib.hid (fun (w8 : World) (hb : Blk w8 lb 178 (lgC b tk L')) (ht : Blk w8 tk 218 sumRow) (A : Option Addr) (cap : Nat) (hr : Row w8 A (uRow us)) => lgTake_any (cap := cap) hb ht HI.out.lg.ne hLO hn1 hr rfl (by omega) hd)
    have HTO := Lib.hid (took_ok (us := us) hLO hlt hn1)
    have HLT : Hid (∀ g ∈ F', g < wr.heap.size) := Lib.hid HI.out.lg.own.lt
    have HOP := Lib.hid hOp
    have HLBF := Lib.hid HI.out.lg.mem.2
    obtain ⟨nu, hnu⟩ : ∃ nu, us.length = nu := ⟨_, rfl⟩
    rw [hnu] at cTk cF
    have HNU := Lib.hid hnu
    clear ht1 ht2 hF1 hLO hbk hkb hkb2 h1 h2 h3 hreps hys him hpre hyes hd hu0 hlen hOp hkB hnu hlt hn1
    go_upto_region 11 with (first | (go_at_call 86; refine cLf.out.mono ?_; rintro e w3 ⟨rfl, HM3⟩) | (go_at_call 87; refine (cF.out _ HM3.out).mono ?_; rintro e w4 ⟨A, cap, rfl, HA, HCAP, HL4, HN4, HNA⟩) | fail)
    obtain ⟨w5, hw5⟩ : ∃ w5, w4.alloc (.cells #[.int .u64 (L'.next : Nat), .int .u32 (L'.chain : Nat), .slice A nu cap] 180) = w5 := ⟨_, rfl⟩
    obtain ⟨g5, hg5⟩ : ∃ g5, w4.heap.size = g5 := ⟨_, rfl⟩
    have hm5 : Mods [] w4 w5 := by rw [← hw5]; exact (Mods.refl _ _).alloc _
    have HG5 : Hid (Blk w5 g5 180 [.int .u64 (L'.next : Nat), .int .u32 (L'.chain : Nat), .slice A nu cap]) := Lib.hid (by rw [← hw5, ← hg5]; exact Blk.new w4 180 _)
    have HL5 := Lib.hid (HL4.out.protect hm5 (G := [g5]) (fun k hk => by rw [List.mem_singleton.1 hk]; exact ⟨by omega, HG5.out.lt⟩))
    have HO5 := Lib.hid (((HI.out.calm HM3.out).turn HL4.out HN4.out (fun _ h => List.mem_append_right _ h)).turn HL5.out (Minds.of hm5) (fun _ h => List.mem_append_right _ h))
    have HA5 := Lib.hid (HA.out.keep0 hm5)
    have HFG : Hid (∀ g ∈ F', g < g5) := Lib.hid (fun g hg => by have := HL4.out.own.lt g (List.mem_append_right _ hg); omega)
    have HAG : Hid (∀ a, A = some a → a.block < g5 ∧ wr.heap.size ≤ a.block) := Lib.hid (fun a ha => by
     have h1 := HNA.out a ha
     have h2 := HM3.out.size
     have h3 := HL4.out.own.lt a.block (List.mem_append_left _ (by rw [ha]; simp [blkA]))
     exact ⟨by omega, by omega⟩)
    have HMW : Hid (Minds F w w5) := Lib.hid (((HMI.out.tr HM3.out).trans (HN4.out.mono HFF.out)).tr hm5)
    rw [hw5, hg5]
    clear hw5 hg5 hm5 HA HL4 HN4 HNA cF cLf HM3 HL5
    obtain ⟨G, hG⟩ : ∃ G, [g5] ++ (blkA A ++ F') = G := ⟨_, rfl⟩
    have HGS : Hid ((∀ g ∈ F', g ∈ G) ∧ g5 ∈ G ∧ (∀ a, A = some a → a.block ∈ G)) := Lib.hid (by
     rw [← hG]
     exact ⟨fun g h => by simp [h], by simp, fun a ha => by rw [ha]; simp [blkA]⟩)
    rw [hG] at HO5
    clear hG
    have q0 := HO5.out.ring.cell (i := 0) rfl
    have q1 := HO5.out.ring.cell (i := 1) rfl
    have q2 := HO5.out.lg.lg.cell (i := 4) rfl
    go_cut [18, 19] from 48 to 59 (fun hv ev wx => hv = .int .i64 ((M'.heal kb y).1 : Nat) ∧ ev = .int .i64 0 ∧ Hid (OpIn W wx G K x b p tk lb rb w.heap.size (M'.heal kb y).2 L0 L' dn (.slice A13 dn.length cap13)) ∧ Hid (Minds G w5 wx))
    case first =>
     clear HBK HH HWL cTk HTO HLT HOP HNU HFF HMI HRS HLO1 HDN HLF hlf0
     go_region_held3 (fun w' => w'.cell? ⟨rb, 0, none⟩ = some (.int .i64 (L0.first : Nat)) ∧ w'.cell? ⟨rb, 1, none⟩ = some (.int .i64 (L0.count : Nat)) ∧ w'.cell? ⟨lb, 4, none⟩ = some (.int .u64 (L'.next : Nat)))
      (first | go_keep | exact HD2.out | exact HD1.out | fail)
      ((first
       | (go_at_call 88; have zz := HD1; clear zz; refine (cH.out _ _ HO6.out.lg).mono ?_; rintro e w7 ⟨rfl, HW7, HN7⟩; have HO7 := Lib.hid (HO6.out.turn (HO6.out.lg.go HW7.out HN7.out) HN7.out (fun _ h => h)); have HD2 := Lib.hid (And.intro (HO7.out.ring.cell (i := 0) rfl) (And.intro (HO7.out.ring.cell (i := 1) rfl) (HO7.out.lg.lg.cell (i := 4) rfl))))
       | (go_at_call 89; refine (cG.out _).mono ?_; rintro e w6 ⟨rfl, HM5⟩; have HM6 := Lib.hid (((Mods.refl [] w5).drew).trans HM5.out (by simp)); have HO6 := Lib.hid (HO5.out.calm HM6.out); have HD1 := Lib.hid (And.intro (HO6.out.ring.cell (i := 0) rfl) (And.intro (HO6.out.ring.cell (i := 1) rfl) (HO6.out.lg.lg.cell (i := 4) rfl))))
       | fail))
     go_wp2_with fail
     go_meet
     first
      | exact ⟨rfl, rfl, HO7, Lib.hid ((Minds.of HM6.out).trans HN7.out)⟩
      | exact ⟨rfl, rfl, Lib.hid (HO7.out.calm ((Mods.refl _ _).drewN _)), Lib.hid (((Minds.of HM6.out).trans HN7.out).tr ((Mods.refl _ _).drewN _))⟩
    case rest =>
     obtain ⟨rfl, rfl, HO7, HN7⟩ := hcut
     have HG7 := Lib.hid (HN7.out.blk HG5.out HGS.out.2.1)
     have HA7 := Lib.hid (HN7.out.row HA5.out HGS.out.2.2)
     obtain ⟨cs, hrow, hrec⟩ := HO7.out.row
     have HREC := Lib.hid hrec
     obtain ⟨wa, hwa⟩ : ∃ wa, wc.alloc (.cells #[.int .u64 (L'.next : Nat), .int .u32 (L'.chain : Nat), .slice A nu cap] 180) = wa := ⟨_, rfl⟩
     obtain ⟨ga, hga⟩ : ∃ ga, wc.heap.size = ga := ⟨_, rfl⟩
     have hma : Mods [] wc wa := by rw [← hwa]; exact (Mods.refl _ _).alloc _
     have HMA := Lib.hid hma
     have HOA := Lib.hid (HO7.out.calm hma)
     have HGA := Lib.hid (HG7.out.keep hma (by simp))
     have HAA := Lib.hid (HA7.out.keep0 hma)
     have HROW := Lib.hid (owns_keepL hrow hma)
     have hcn := cells_new3 wc (.int .u64 (L'.next : Nat)) (.int .u32 (L'.chain : Nat)) (.slice A nu cap) 180 ga hga
     rw [hwa] at hcn
     have hsz : wa.heap.size = ga + 1 := by rw [← hwa, ← hga]; simp
     have hbase : w.heap.size ≤ wa.heap.size := HOA.out.base.2
     obtain ⟨i0, hi0, hz1, hz2, hz3⟩ := info_parts info_rec
     obtain ⟨hdn1, hdn2⟩ := HDN.out
     have r0 := HG7.out.cell (i := 0) rfl
     have r1 := HG7.out.cell (i := 1) rfl
     have r2 := HG7.out.cell (i := 2) rfl
     have HOW : Hid (∀ g, (Value.slice A13 dn.length cap13).ownBlock = some g → g ≠ lb ∧ g ≠ tk ∧ g < g5 ∧ w.heap.size ≤ g ∧ g ∈ F') := Lib.hid (fun g hg => by
      have h1 := HI.out.own g hg
      obtain ⟨cs', h2, _⟩ := HI.out.row
      exact ⟨h1.2.2.1, h1.2.2.2.1, HFG.out g h1.1, (h2.lt g hg).1, h1.1⟩)
     clear hma hrow hrec cG cH HG5 HA5 HI HO5 hdn2
     go_wp2_with (first
      | (at_builtin; refine wpList_append_lies _ rfl (.tmp 63) (.tmp 65) 94 rfl w.heap.size 180 i0 (.agg #[.int .u64 0, .int .u32 0, .slice none 0 0]) 3 40 Tryz.underlying94 hi0 hz1 hz2 hz3 rfl (by decide) _ _ _ rfl HROW.out ⟨ga, 0, none⟩ 1 1 [.int .u64 (L'.next : Nat), .int .u32 (L'.chain : Nat), .slice A nu cap] rfl rfl hcn (by simp [Value.oneCell']) (by decide) (by simp only [maxLen]; omega) (by omega) hbase (ga + 1) hsz ?_; intro g2 cap2 w8 hown3 hg3 hat3 hlt3; obtain ⟨HM8, HMF8, HG8, HR8, HB8, HT8⟩ := app_facts hg3 HOW HGA HAA HAG HLT HOA HFL; have HOWN3 := Lib.hid hown3; have HAT3 := Lib.hid hat3; have HLT3 := Lib.hid hlt3; have cT8 := Lib.hid (cTk.out w8 HB8.out HT8.out A cap HR8.out); have k0 := HG8.out.cell (i := 0) rfl; have k1 := HG8.out.cell (i := 1) rfl; have k2 := HG8.out.cell (i := 2) rfl; clear hown3 hg3 hat3 hlt3 r0 r1 r2 cTk)
      | (go_at_call 90; refine cT8.out.mono ?_; rintro e w9 ⟨rfl, HM9, HB9⟩)
      | fail)
     go_roundw
     case rel =>
      obtain rfl := HNU.out
      refine ⟨dn ++ [us], rs2, (M'.heal kb y).2, L'.took us, g2 :: G, blkA A ++ K, by rw [HRS.out, List.append_assoc]; rfl, ?_, HOP.out, HTO.out, fun g hg => List.mem_cons_of_mem _ (HGS.out.1 g (HFF.out g hg)), ?_⟩
      ·refine HOA.out.add HAA.out HCAP.out.1 HCAP.out.2 (fun a ha => ?_) HROW.out (RecRow.keep (Minds.of HMA.out) (fun _ h => h) HREC.out) HM8.out HOWN3.out ?_ HLT3.out HM9.out HB9.out
       ·have h1 := (HAG.out a ha).2
        have h2 := HLT.out lb HLBF.out
        refine ⟨HGS.out.2.2 a ha, by omega, fun g hg => ?_⟩
        have h3 := HLT.out g (HOW.out g hg).2.2.2.2
        omega
       ·rcases HAT3.out with h | h
        ·exact .inl h
        ·exact .inr (by rw [h, hsz]; exact Nat.le_refl _)
      ·refine ((((HMW.out.trans (HN7.out.mono (fun k hk => HGS.out.1 k (HFF.out k hk)))).tr HMA.out).trans HMF8.out)).trans ⟨[lb], HM9.out, fun k hk hx => ?_⟩
       rw [List.mem_singleton.1 hk] at hx
       have h1 := HFL.out lb hx
       have h2 := HWL.out
       omega
     case measure =>
      have h := congrArg List.length HRS.out
      simp only [List.length_append, List.length_cons] at h
      simp only [slN]
      omega
end
end Go.Proofs.YtkjpdfomppjiiaaGreatDoor
/- law13: fresh, ring, again: a mirror anew over its devices. -/
namespace Go.Proofs.YtkjpdfomppjiiaaGreatDoor
open Go.RowKit

section
variable {W w w' : World} {F G : List Nat} {x : Nat → Nat} {b p b2 p2 : Nat} {M M2 : Mi} {B z n c : Nat}
def openM (M : Mi) : Mi := ⟨openP M.P, [], 0⟩
theorem Gm.openM (h : Gm B z n c M) : Gm B z n c (openM M) := by
 obtain ⟨o1, o2, o3, o4, _, _⟩ := open_inv h.pi
 exact ⟨o1, o3.trans h.nn, by show ((openP M.P).dev 0).size = z; rw [o2]; exact h.size, fun s hs => by show ((openP M.P).tab s).blocks = B; rw [o4 s hs]; exact h.blocks s hs, fun d hd => by show ((openP M.P).dev d).cache.length ≤ c; rw [o2]; exact h.few d hd, fun hb => absurd rfl hb⟩
theorem openM_read (_h : Gm B z n c M) {s : Nat} (hs : s < 2) (i : Int) : (Go.Proofs.YtkjpdfomppjiiaaGreatDoor.openM M).P.read s i = M.P.read s i := open_read hs i
theorem openM_sound (h : Sound M.P) : Sound (Go.Proofs.YtkjpdfomppjiiaaGreatDoor.openM M).P := h
theorem load_ring {w : World} {b : Nat} {a0 a1 : Value} (h : Blk w b 98 [a0, a1]) : (loadVar 98 ⟨b, 0, none⟩).run Tryz.prog w = .ok (.agg #[a0, a1]) w := by
 have c0 := h.cell (i := 0) (v := a0) rfl
 have c1 := h.cell (i := 1) (v := a1) rfl
 go_simp
end
end Go.Proofs.YtkjpdfomppjiiaaGreatDoor
/- law13: fresh; a log that may not be opened. -/
namespace Go.Proofs.YtkjpdfomppjiiaaGreatDoor
open Go.RowKit

section
variable {W w w' : World} {F : List Nat} {x : Nat → Nat} {b p : Nat} {M : Mi} {B z n c : Nat}
set_option maxRecDepth 100000 in
set_option maxHeartbeats 1600000 in
theorem lgCut_any {tk lb : Nat} {L : LogE} (hb : Blk w lb 178 (lgC b tk L)) (hL : L.Ok) (hn : L.next + L.count < 18446744073709551616) :
  Calls Tryz.prog 92 #[.pointer (some ⟨lb, 0, none⟩)] w fun e w' => e = .returned (.tuple #[.int .u64 ((L.next + L.count : Nat) : Nat), .int .u32 (L.chain : Nat), .int .i64 0]) ∧ Hid (Mods [lb] w w') ∧ Hid (Blk w' lb 178 (lgC b tk ⟨L.first, L.count, L.next + L.count, L.chain, 0⟩)) := by
 have h2 := hL.count2
 obtain ⟨m, hm⟩ : ∃ m : Nat, (L.next : Int) + (L.count : Int) = (m : Int) := ⟨L.next + L.count, by omega⟩
 have hm2 : L.next + L.count = m := by omega
 rw [hm2] at hn ⊢
 have hcw : IntKind.u64.wrap (L.count : Int) = (L.count : Int) := by rw [IntKind.wrap_u64]; omega
 have hmw : IntKind.u64.wrap (m : Int) = (m : Int) := by rw [IntKind.wrap_u64]; omega
 obtain ⟨k, hk⟩ : ∃ k : Nat, (18446744073709551615 : Int) - (L.count : Int) = (k : Int) := ⟨18446744073709551615 - L.count, by omega⟩
 have hkw : IntKind.u64.wrap (k : Int) = (k : Int) := by rw [IntKind.wrap_u64]; omega
 have hle : ¬ (k : Int) < (L.next : Int) := by omega
 have HB := Lib.hid hb
 have c3 := hb.cell (i := 3) rfl
 have c4 := hb.cell (i := 4) rfl
 have c5 := hb.cell (i := 5) rfl
 have f4 := hb.free 4
 have f6 := hb.free 6
 have c6 := hb.cell (i := 6) rfl
 clear hb hL h2 hm2 hn
 go_enter Tryz.func92, Tryz.ntmps92
 go_upto_region 3 with fail
 go_region
 go_upto_region 5 with fail
 go_region
 go_upto_region 6 with fail
 obtain ⟨w5, hw5⟩ : ∃ w5, (w.setCell ⟨lb, 4, none⟩ (.int .u64 (m : Nat))).drew.drew = w5 := ⟨_, rfl⟩
 have HB5 : Hid (Blk w5 lb 178 (lgC b tk ⟨L.first, L.count, m, L.chain, L.have_⟩)) := Lib.hid (by rw [← hw5]; exact (HB.out.set 4 (.int .u64 (m : Nat))).drewN 2)
 have HM5 : Hid (Mods [lb] w w5) := Lib.hid (by rw [← hw5]; exact (((Mods.refl _ _).setCell (by simp) _).drew).drew)
 rw [hw5]
 clear hw5 c3 c4 c5 c6 f4 f6
 have f6 := HB5.out.free 6
 have c6 := HB5.out.cell (i := 6) rfl
 go_upto_region 7 with fail
 obtain ⟨w6, hw6⟩ : ∃ w6, w5.setCell ⟨lb, 6, none⟩ (.int .i64 0) = w6 := ⟨_, rfl⟩
 have HB6 : Hid (Blk w6 lb 178 (lgC b tk ⟨L.first, L.count, m, L.chain, 0⟩)) := Lib.hid (by rw [← hw6]; exact HB5.out.set 6 (.int .i64 0))
 have HM6 : Hid (Mods [lb] w w6) := Lib.hid (by rw [← hw6]; exact HM5.out.setCell (by simp) _)
 rw [hw6]
 clear hw6 f6 c6
 have c4 := HB6.out.cell (i := 4) rfl
 have c5 := HB6.out.cell (i := 5) rfl
 go_region
 go_wp2_with fail
 go_ret3
 exact ⟨rfl, Lib.hid (HM6.out.drewN _), Lib.hid (HB6.out.drewN _)⟩
end
end Go.Proofs.YtkjpdfomppjiiaaGreatDoor
/- The log over a mirror without faults, plainly: its records lie in its ring; what Open goes through. -/
namespace Go.Proofs.YtkjpdfomppjiiaaGreatDoor

def updR (rd : Nat → ByteArray) (i : Nat) (X : ByteArray) : Nat → ByteArray := fun j => if j = i then X else rd j
theorem block_ne {f c a b : Nat} (h1 : a < b) (h2 : b < a + c) : f + a % c ≠ f + b % c := by
 intro e
 have e2 : a % c = b % c := by omega
 have h3 := Nat.div_add_mod a c
 have h4 := Nat.div_add_mod b c
 rw [e2] at h3
 have h5 : c * (a / c) < c * (b / c) := by omega
 have h6 : a / c < b / c := Nat.lt_of_mul_lt_mul_left h5
 have h7 : c * (a / c + 1) ≤ c * (b / c) := Nat.mul_le_mul_left c h6
 rw [Nat.mul_add, Nat.mul_one] at h7
 omega
theorem tooks_more : ∀ (rs : List (List UpdE)) (L : LogE), (L.tooks rs).next = L.next + rs.length
 | [], L => rfl
 | us :: rs, L => by
  show ((L.took us).tooks rs).next = _
  rw [tooks_more rs (L.took us)]
  show L.next + 1 + rs.length = L.next + (rs.length + 1)
  omega
end Go.Proofs.YtkjpdfomppjiiaaGreatDoor

