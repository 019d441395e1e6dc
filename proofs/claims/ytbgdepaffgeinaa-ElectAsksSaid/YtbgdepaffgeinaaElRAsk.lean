/- The document's node asks. -/
import Derived.Test.YtbgdepaffgeinaaElRLead
import Derived.Test.YtbgdepaffgeinaaEzRead
import Derived.Deep.DeepCutAuto
namespace Go.Proofs.Ytbgdepaffgeinaa
open Go.RowKit
/-- what the document's node is behind a call, and what it sends -/
def RSent (H : Nat) (w w' : World) (S : Nat → Prop) (g : Nat) (v : Value) (r : ND × List Ms) : Prop :=
  RTo H w w' S g r.1 ∧ Chg (GN2 g) w w' ∧ w'.ownsRow w.heap.size 81 10 v r.2.length (mcells r.2)
theorem RSent.none_ {H : Nat} {w w' : World} {S : Nat → Prop} {g : Nat} {y : ND} (h : RTo H w w' S g y) (hc : Chg (GN2 g) w w') : RSent H w w' S g (.slice none 0 0) (y, []) :=
  ⟨h, hc, World.ownsRow_nil _ _ _ _⟩
theorem RSent.behind {H : Nat} {w w1 w2 : World} {S S' : Nat → Prop} {g : Nat} {v : Value} {r : ND × List Ms} (hS : ∀ b, S' b → S b ∨ w.heap.size ≤ b) (hc : Chg (GN2 g) w w1) (h : RSent H w1 w2 S' g v r) : RSent H w w2 S g v r :=
  ⟨h.1.trans hS hc.size, hc.same h.2.1, own_wide h.2.2 hc.size⟩
theorem drewN_size' (w : World) (n : Nat) : (w.drewN n).heap.size = w.heap.size := rfl
theorem rhas_quiet {A : Option Addr} {n c lo hi : Nat} {xs : List Int} {v : Int} {w : World} (hs : Sl w lo hi 1 A n c (xs.map iv)) {b : Bool} (hb : xs.contains v = b) :
    Calls Try.prog 65 #[.slice A n c, .int .i64 v] w fun e w' => e = .returned (.bool b) ∧ ∃ q, w' = w.drewN q :=
  (rhas_any A n c lo hi xs v w hs (by rw [← hb]; simp)).mono fun _ _ ⟨h1, h2⟩ => ⟨h1, 0, by rw [← h2]; rfl⟩
theorem ragrees_quiet {A B : Option Addr} {n c m d lo hi lo' hi' : Nat} {xs ys : List Int} {w : World} (hs : Sl w lo hi 1 A n c (xs.map iv)) (ht : Sl w lo' hi' 1 B m d (ys.map iv)) (hn : n ≤ 1000) {r : Bool} (hr : agrees xs ys = r) :
    Calls Try.prog 66 #[.slice A n c, .slice B m d] w fun e w' => e = .returned (.bool r) ∧ ∃ q, w' = w.drewN q :=
  (ragrees_any A n c lo hi xs B m d lo' hi' ys w hs ht hn (by rw [agr_agrees]; exact hr)).mono fun _ _ ⟨h1, h2⟩ => ⟨h1, 0, by rw [← h2]; rfl⟩
section
variable {H : Nat} {S : Nat → Prop} {g : Nat} {q : RQ} {x : ND}
/-- the node's yes are a new row of itself alone -/
theorem RN.asked {w wc : World} {y : ND} (h : RN H w S g q x) (hge : w.grownBy wc (some g)) (hbe : Blk wc g 98 (q.cells y).toArray) (hconf : y.conf = x.conf) (hes : y.es = x.es) (hn : y.next = x.next) (hm : y.mt = x.mt) (hme : y.me = x.me) :
    ∃ S', RN H (((wc.setCell ⟨g, 3, none⟩ (.int .i64 (-1))).setCell ⟨g, 5, none⟩ (.slice (some ⟨wc.heap.size, 0, none⟩) 1 1)).alloc (.cells #[.int .i64 x.me] 3)) S' g { q with yA := some ⟨wc.heap.size, 0, none⟩, yc := 1 } y.asked ∧ (∀ b, S' b → S b ∨ w.heap.size ≤ b) ∧
    Chg (GN2 g) w (((wc.setCell ⟨g, 3, none⟩ (.int .i64 (-1))).setCell ⟨g, 5, none⟩ (.slice (some ⟨wc.heap.size, 0, none⟩) 1 1)).alloc (.cells #[.int .i64 x.me] 3)) := by
  have hg := grown_alloc (only_setCell (only_setCell hge 3 (.int .i64 (-1))) 5 (.slice (some ⟨wc.heap.size, 0, none⟩) 1 1)) (.cells #[.int .i64 x.me] 3)
  have hb := ((hbe.set_ 3 (.int .i64 (-1))).set_ 5 (.slice (some ⟨wc.heap.size, 0, none⟩) 1 1)).alloc (.cells #[.int .i64 x.me] 3)
  have hrow2 := own_whole ((wc.setCell ⟨g, 3, none⟩ (.int .i64 (-1))).setCell ⟨g, 5, none⟩ (.slice (some ⟨wc.heap.size, 0, none⟩) 1 1)) wc.heap.size 1 1 3 #[.int .i64 x.me] (by simp) (by simp [maxLen]) (by simp)
  simp only [size_setCell'] at hrow2
  have hc : Chg (GN2 g) w _ := Chg.grown hg fun k e => by cases e; exact .inl rfl
  have hcf := h.kept hc h.conf
  have hef := h.kept hc h.es
  have hyf := h.made (A := some ⟨wc.heap.size, 0, none⟩) hrow2 hge.size
  obtain ⟨S', h1, h2⟩ := h.turn hc (q' := { q with yA := some ⟨wc.heap.size, 0, none⟩, yc := 1 }) (x' := y.asked) (by show y.next.length = 16; rw [hn]; exact h.n16) (by show y.mt.length = 16; rw [hm]; exact h.m16)
    (by simpa [RQ.cells, RQ.head, ND.asked] using hb) (by show Rd H _ _ g 1 q.cA y.conf.length q.cc (y.conf.map iv); rw [hconf]; exact hcf) (by show Rd H _ _ g 1 _ 1 1 [iv y.me]; rw [hme]; exact hyf) (by show Rd H _ _ g 3 q.eA y.es.length q.ec (ecells y.es); rw [hes]; exact hef)
  exact ⟨S', h1, h2, hc⟩
set_option maxRecDepth 100000 in
set_option maxHeartbeats 12800000 in
theorem rask_real (w : World) (h : RN H w S g q x) (hok : x.Ok) :
    Calls Try.prog 35 #[.pointer (some ⟨g, 0, none⟩), .bool true] w fun e w' => ∃ v, e = .returned v ∧ RSent H w w' S g v x.askReal := by
  obtain ⟨cA, cc, yA, yc, eA, ec⟩ := q
  have x0 : w.cell? ⟨g, 0, none⟩ = some (.int .i64 x.me) := h.c rfl
  have x4 : w.cell? ⟨g, 4, none⟩ = some (.slice cA x.conf.length cc) := h.c rfl
  have HSC := Lib.hid h.conf.1
  have hcl := hok.conf
  have HOK := Lib.hid hok
  have HH := Lib.hid h
  cases hin : x.conf.contains x.me with
  | false =>
    have HIN := Lib.hid hin
    clear hin h hok
    go_enter Try.func35, Try.ntmps35
    go_wp2_with fail
    go_quiet ((go_at_call 65; exact Calls.quiet_of (rhas_quiet (HSC.out.drewN _) HIN.out)))
    go_wp2_with fail
    go_ret
    have he : x.askReal = (x, []) := by unfold ND.askReal; rw [HIN.out]; rfl
    rw [he]
    exact ⟨_, rfl, RSent.none_ (.of (fun _ h => .inl h) (HH.out.drewN _)) ((Chg.refl _ _).drewN _)⟩
  | true =>
    have HIN := Lib.hid hin
    have x6 : w.cell? ⟨g, 6, none⟩ = some (.int .u64 (x.term : Int)) := h.c rfl
    have hterm := hok.term
    have hw : IntKind.u64.wrap ((x.term : Int) + 1) = (x.term : Int) + 1 := by rw [IntKind.wrap_u64]; omega
    have x1 : w.cell? ⟨g, 1, none⟩ = some (.int .i64 x.vote) := h.c rfl
    have x2 : w.cell? ⟨g, 2, none⟩ = some (.int .i64 x.role) := h.c rfl
    have x3 : w.cell? ⟨g, 3, none⟩ = some (.int .i64 x.lead) := h.c rfl
    have x5 : w.cell? ⟨g, 5, none⟩ = some (.slice yA x.yes.length yc) := h.c rfl
    have f1 := h.blk.frozen 1
    have f2 := h.blk.frozen 2
    have f3 := h.blk.frozen 3
    have f5 := h.blk.frozen 5
    have f6 := h.blk.frozen 6
    have hgl := h.blk.lt
    clear hin h hok
    go_enter Try.func35, Try.ntmps35
    go_wp2_with fail
    go_quiet ((go_at_call 65; exact Calls.quiet_of (rhas_quiet (HSC.out.drewN _) HIN.out)))
    go_wp2_with fail
    have hbe := (((HH.out.blk.drewN nq).set_ 6 (.int .u64 ((x.term : Int) + 1))).set_ 1 (.int .i64 x.me)).set_ 2 (.int .i64 2)
    have hge := only_setCell (only_setCell (only_setCell (grown_of_below (below_drewN (Below.refl _ w) nq) (some g)) 6 (.int .u64 ((x.term : Int) + 1))) 1 (.int .i64 x.me)) 2 (.int .i64 2)
    have hk := HH.out.asked (y := { x with term := x.term + 1, vote := x.me, role := 2 }) hge (by simpa [RQ.cells, RQ.head] using hbe) rfl rfl rfl rfl rfl
    simp only [size_setCell', drewN_size'] at hk
    generalize hwf : ((((((w.drewN nq).setCell ⟨g, 6, none⟩ (.int .u64 ((x.term : Int) + 1))).setCell ⟨g, 1, none⟩ (.int .i64 x.me)).setCell ⟨g, 2, none⟩ (.int .i64 2)).setCell ⟨g, 3, none⟩ (.int .i64 (-1))).setCell ⟨g, 5, none⟩ (.slice (some ⟨w.heap.size, 0, none⟩) 1 1)).alloc (.cells #[.int .i64 x.me] 3) = wf at hk ⊢
    clear hbe hge
    obtain ⟨S', hN, hS', hC⟩ := hk
    have hN : RN H wf S' g _ x.reals := hN
    have c0 : wf.cell? ⟨g, 0, none⟩ = some (.int .i64 x.me) := hN.c rfl
    have c4 : wf.cell? ⟨g, 4, none⟩ = some (.slice cA x.conf.length cc) := hN.c rfl
    have c5 : wf.cell? ⟨g, 5, none⟩ = some (.slice (some ⟨w.heap.size, 0, none⟩) 1 1) := hN.c rfl
    have HSY := Lib.hid hN.yes.1
    have HSC2 := Lib.hid hN.conf.1
    have HN := Lib.hid hN
    have HS' := Lib.hid hS'
    have HC := Lib.hid hC
    clear hwf hN hS' hC x0 x1 x2 x3 x4 x5 x6 f1 f2 f3 f5 f6 HSC
    cases hag : agrees x.conf [x.me] with
    | true =>
      have HAG := Lib.hid hag
      clear hag
      go_quiet ((go_at_call 66; exact Calls.quiet_of (ragrees_quiet (HSC2.out.drewN _) (HSY.out.drewN _) HOK.out.conf HAG.out)))
      go_wp2_with fail
      refine (rlead_any _ (HN.out.drewN _) HOK.out.base HOK.out.es HOK.out.me0 HOK.out.me16).mono ?_
      rintro e w5 ⟨rfl, hR, hC5⟩
      go_wp2_with fail
      go_ret
      have he : x.askReal = (x.reals.toLead, []) := by unfold ND.askReal; rw [HIN.out, HAG.out]; rfl
      rw [he]
      exact ⟨_, rfl, RSent.none_ (hR.trans HS'.out HC.out.size) ((HC.out.drewN _).same hC5)⟩
    | false =>
      have HAG := Lib.hid hag
      clear hag
      go_quiet ((go_at_call 66; exact Calls.quiet_of (ragrees_quiet (HSC2.out.drewN _) (HSY.out.drewN _) HOK.out.conf HAG.out)))
      go_wp2_with fail
      refine (rothers_any (wf.drewN nq) (HN.out.drewN _) HOK.out.conf).mono ?_
      rintro e w1 ⟨v1, rfl, hown, hb1⟩
      have h1N := (HN.out.drewN nq).after hb1
      have y0 : w1.cell? ⟨g, 0, none⟩ = some (.int .i64 x.me) := h1N.c rfl
      have y8 : w1.cell? ⟨g, 8, none⟩ = some (.int .u64 (x.base : Int)) := h1N.c rfl
      have y9 : w1.cell? ⟨g, 9, none⟩ = some (.int .u64 (x.bt : Int)) := h1N.c rfl
      have y10 : w1.cell? ⟨g, 10, none⟩ = some (.slice eA x.es.length ec) := h1N.c rfl
      have hw1 : wf.heap.size ≤ w1.heap.size := hb1.size
      have hgl1 : g < w1.heap.size := h1N.blk.lt
      have HX : Hid (∀ W, Below w1.heap.size w1 W → W.cell? ⟨g, 0, none⟩ = some (.int .i64 x.me) ∧ W.cell? ⟨g, 8, none⟩ = some (.int .u64 (x.base : Int)) ∧ W.cell? ⟨g, 9, none⟩ = some (.int .u64 (x.bt : Int)) ∧ W.cell? ⟨g, 10, none⟩ = some (.slice eA x.es.length ec)) := fun W hW => ⟨cell_below hW y0, cell_below hW y8, cell_below hW y9, cell_below hW y10⟩
      have HES := Lib.hid h1N.es.1
      have HT : Hid (∀ W, Below w1.heap.size w1 W → Calls Try.prog 25 #[.agg #[.int .u64 (x.base : Int), .int .u64 (x.bt : Int), .slice eA x.es.length ec]] W fun e w' => e = .returned (.int .u64 (x.lastT : Int)) ∧ Below W.heap.size W w') := fun W hW => rlastTerm_any x.base x.bt x.es.length ec 0 w1.heap.size eA x.es W (HES.out.after (by decide) hW) HOK.out.base (by have := HOK.out.es; omega)
      have HL : Hid (∀ W, Calls Try.prog 23 #[.agg #[.int .u64 (x.base : Int), .int .u64 (x.bt : Int), .slice eA x.es.length ec]] W fun e w' => e = .returned (.int .u64 (x.last : Int)) ∧ Below W.heap.size W w') := fun W => by
        have := rlast_any x.base x.es.length ec (x.bt : Int) eA W HOK.out.base (by have := HOK.out.es; omega)
        rwa [show (x.base : Int) + (x.es.length : Int) = (x.last : Int) from by unfold ND.last; omega] at this
      have HN1 := Lib.hid h1N
      have HTA := Lib.hid (show x.toAll 1 (x.term + 1) x.last x.lastT = x.others.map (fun d => (⟨1, x.me, d, x.term + 1, x.last, x.lastT, false⟩ : Ms)) from rfl)
      have hol : x.others.length ≤ 1000 := Nat.le_trans (List.length_filter_le _ _) hcl
      have hown : w1.ownsRow wf.heap.size 3 1 v1 x.others.length (x.others.map iv) := hown
      generalize x.others = xo at HTA hol hown
      obtain ⟨A1, c1, hv1, hsl1⟩ := own_sl hown
      subst hv1
      obtain ⟨n, hn⟩ : ∃ n, xo.length = n := ⟨_, rfl⟩
      rw [hn] at hsl1 hol ⊢
      have HNN := Lib.hid hn
      have HSL := Lib.hid hsl1
      have HB1 := Lib.hid hb1
      clear hn hsl1 hown hb1 h1N y0 y8 y9 y10 c0 c4 c5
      obtain ⟨i0, hi0, hz0, hz1, hz2⟩ := info_parts msg_info
      go_wp2_with fail
      go_loopw [9, 11] (fun v ii wr => ∃ j : Nat, j ≤ n ∧ ii = .int .i64 j ∧ wr.ownsRow w1.heap.size 81 10 v j (mcells ((xo.take j).map (fun d => (⟨1, x.me, d, x.term + 1, x.last, x.lastT, false⟩ : Ms)))) ∧ Below w1.heap.size w1 wr) (fun _ ii _ => n - (intOf ii).toNat)
      case atStart => exact ⟨0, Nat.zero_le _, rfl, World.ownsRow_nil _ _ _ _, Below.refl _ _⟩
      case round =>
        obtain ⟨j, hj, rfl, hrow, hbr⟩ := hrel
        obtain ⟨A, c, rfl, -⟩ := own_sl hrow
        have HROW := Lib.hid hrow
        have HBR := Lib.hid hbr
        by_cases hjn : j < n
        · have hjn' : (j : Int) < (n : Int) := by omega
          obtain ⟨ad, dd, rfl, hto, z1⟩ := HSL.out.int hjn
          have HTO := Lib.hid hto
          obtain ⟨y0, y8, y9, y10⟩ := HX.out _ hbr
          have z0 := cell_below hbr z1
          have HK : Hid (∀ W, Aft w1 W → W.cell? ⟨g, 0, none⟩ = some (.int .i64 x.me) ∧ W.cell? ⟨g, 8, none⟩ = some (.int .u64 (x.base : Int)) ∧ W.cell? ⟨g, 9, none⟩ = some (.int .u64 (x.bt : Int)) ∧ W.cell? ⟨g, 10, none⟩ = some (.slice eA x.es.length ec) ∧ W.cell? (ad.add j) = some (.int .i64 dd)) := fun W hW => by
            obtain ⟨q1, q2, q3, q4⟩ := HX.out W hW
            exact ⟨q1, q2, q3, q4, cell_below hW z1⟩
          have ha0 : Aft w1 wr := hbr
          have ha0' : Aft w1 wr.drew := ha0.drew
          have HE : Hid (([.int .i64 1, .int .i64 x.me, .int .i64 dd, .int .u64 ((x.term : Int) + 1), .int .u64 (x.last : Int), .int .u64 (x.lastT : Int), .int .u64 0, .bool false, .slice none 0 0, .slice none 0 0] : List Value) = Ms.cells ⟨1, x.me, dd, x.term + 1, x.last, x.lastT, false⟩) := rfl
          clear hrow hbr hto z1
          go_wp2_with fail
          go_region_held3 (fun W' => W'.cell? ⟨g, 0, none⟩ = some (.int .i64 x.me) ∧ W'.cell? ⟨g, 8, none⟩ = some (.int .u64 (x.base : Int)) ∧ W'.cell? ⟨g, 9, none⟩ = some (.int .u64 (x.bt : Int)) ∧ W'.cell? ⟨g, 10, none⟩ = some (.slice eA x.es.length ec) ∧ W'.cell? (ad.add j) = some (.int .i64 dd)) (first | (with_reducible exact HK.out _ ha6) | (with_reducible exact HK.out _ ha5) | (with_reducible exact HK.out _ ha4) | (with_reducible exact HK.out _ ha0') | (with_reducible exact HK.out _ ha0) | (with_reducible exact HK.out _ (Aft.alloc ha5 _)) | (with_reducible exact HK.out _ (Aft.alloc ha4 _)) | go_keep) (first
            | (go_at_call 23; refine (HL.out _).mono ?_; rintro e w4 ⟨rfl, hb4⟩; have ha4 : Aft w1 w4 := Aft.call (by first | exact ha5 | exact ha0') hb4; have hr4 := own_after (show World.ownsRow _ w1.heap.size 81 10 (.slice A j c) j _ from by first | exact hr5 | exact HROW.out) hb4)
            | (go_at_call 25; refine (HT.out _ (by first | exact ha4 | exact ha0')).mono ?_; rintro e w5 ⟨rfl, hb5⟩; have ha5 : Aft w1 w5 := Aft.call (by first | exact ha4 | exact ha0') hb5; have hr5 := own_after (show World.ownsRow _ w1.heap.size 81 10 (.slice A j c) j _ from by first | exact hr4 | exact HROW.out) hb5)
            | (refine step_app _ rfl (.tmp 88) (.tmp 110) 57 rfl w1.heap.size 81 i0 _ 10 112 Try.underlying57 hi0 hz0 hz1 hz2 rfl (by omega) (.slice A j c) j _ (by simp [Act.eval, Act.put]) (own_alloc' hr5 _) w5.heap.size (w5.heap.size + 1) (some ⟨w5.heap.size, 0, none⟩) 1 1 [.int .i64 1, .int .i64 x.me, .int .i64 dd, .int .u64 ((x.term : Int) + 1), .int .u64 (x.last : Int), .int .u64 (x.lastT : Int), .int .u64 0, .bool false, .slice none 0 0, .slice none 0 0] (by simp [Act.eval, Act.put]) (by exact sl_at w5 w5.heap.size 10 1 1 (List.toArray [.int .i64 1, .int .i64 x.me, .int .i64 dd, .int .u64 ((x.term : Int) + 1), .int .u64 (x.last : Int), .int .u64 (x.lastT : Int), .int .u64 0, .bool false, .slice none 0 0, .slice none 0 0]) _ rfl rfl (Nat.le_refl _) (by decide)) (by rw [HE.out]; exact mc_one _) (by simp only [maxLen]; omega) (by omega) (by have := ha5.size; simp; omega) ?_; intro v6 w6 o6 g6 a6; have ha6 : Aft w1 w6 := Below.grown (Aft.alloc ha5 _) g6 (by have := ha5.size; simp; omega) (fun k hk => (HROW.out.lt k hk).1))
            | (refine step_app _ rfl (.tmp 88) (.tmp 110) 57 rfl w1.heap.size 81 i0 _ 10 112 Try.underlying57 hi0 hz0 hz1 hz2 rfl (by omega) (.slice A j c) j _ (by simp [Act.eval, Act.put]) (own_alloc' hr4 _) w4.heap.size (w4.heap.size + 1) (some ⟨w4.heap.size, 0, none⟩) 1 1 [.int .i64 1, .int .i64 x.me, .int .i64 dd, .int .u64 ((x.term : Int) + 1), .int .u64 (x.last : Int), .int .u64 (x.lastT : Int), .int .u64 0, .bool false, .slice none 0 0, .slice none 0 0] (by simp [Act.eval, Act.put]) (by exact sl_at w4 w4.heap.size 10 1 1 (List.toArray [.int .i64 1, .int .i64 x.me, .int .i64 dd, .int .u64 ((x.term : Int) + 1), .int .u64 (x.last : Int), .int .u64 (x.lastT : Int), .int .u64 0, .bool false, .slice none 0 0, .slice none 0 0]) _ rfl rfl (Nat.le_refl _) (by decide)) (by rw [HE.out]; exact mc_one _) (by simp only [maxLen]; omega) (by omega) (by have := ha4.size; simp; omega) ?_; intro v6 w6 o6 g6 a6; have ha6 : Aft w1 w6 := Below.grown (Aft.alloc ha4 _) g6 (by have := ha4.size; simp; omega) (fun k hk => (HROW.out.lt k hk).1)))
          all_goals
            clear y0 y8 y9 y10 z0
            go_wp2_with fail
            go_roundw
            case rel =>
              refine ⟨j + 1, by omega, by first | rfl | go_num, ?_, ha6⟩
              obtain ⟨q1, q2⟩ := List.getElem?_eq_some_iff.1 HTO.out
              rw [List.take_succ_eq_append_getElem q1, q2, List.map_append, mcells_append, List.map_cons, List.map_nil, mcells_one]
              exact o6
            case measure => simp [intOf]; omega
        · obtain rfl : j = n := by omega
          have hjn' : ¬ (j : Int) < (j : Int) := by omega
          clear hrow hbr
          go_wp2_with fail
          go_ret
          have hrow := own_wide HROW.out (Nat.le_trans HC.out.size hw1)
          rw [List.take_of_length_le (by rw [HNN.out]; exact Nat.le_refl _)] at hrow
          have hR := HN1.out.after HBR.out
          have hcc : Chg (GN2 g) w wr := ((HC.out.drewN nq).same (Chg.below HB1.out)).same (Chg.below HBR.out)
          have hrr : RSent H w wr S g (.slice A j c) (x.reals, x.toAll 1 (x.term + 1) x.last x.lastT) := by
            refine ⟨RTo.trans (w1 := wf) HS'.out HC.out.size ⟨S', _, hR, fun b h => .inl h⟩, hcc, ?_⟩
            show World.ownsRow _ _ _ _ _ (x.toAll 1 (x.term + 1) x.last x.lastT).length (mcells (x.toAll 1 (x.term + 1) x.last x.lastT))
            rw [HTA.out, List.length_map, HNN.out]
            exact hrow
          have he : x.askReal = (x.reals, x.toAll 1 (x.term + 1) x.last x.lastT) := by unfold ND.askReal; rw [HIN.out, HAG.out]; rfl
          rw [he]
          exact ⟨_, rfl, hrr⟩
set_option maxRecDepth 100000 in
set_option maxHeartbeats 12800000 in
theorem rask_pre (w : World) (h : RN H w S g q x) (hok : x.Ok) :
    Calls Try.prog 35 #[.pointer (some ⟨g, 0, none⟩), .bool false] w fun e w' => ∃ v, e = .returned v ∧ RSent H w w' S g v x.askPre := by
  obtain ⟨cA, cc, yA, yc, eA, ec⟩ := q
  have x0 : w.cell? ⟨g, 0, none⟩ = some (.int .i64 x.me) := h.c rfl
  have x4 : w.cell? ⟨g, 4, none⟩ = some (.slice cA x.conf.length cc) := h.c rfl
  have HSC := Lib.hid h.conf.1
  have hcl := hok.conf
  have HOK := Lib.hid hok
  have HH := Lib.hid h
  cases hin : x.conf.contains x.me with
  | false =>
    have HIN := Lib.hid hin
    clear hin h hok
    go_enter Try.func35, Try.ntmps35
    go_wp2_with fail
    go_quiet ((go_at_call 65; exact Calls.quiet_of (rhas_quiet (HSC.out.drewN _) HIN.out)))
    go_wp2_with fail
    go_ret
    have he : x.askPre = (x, []) := by unfold ND.askPre; rw [HIN.out]; rfl
    rw [he]
    exact ⟨_, rfl, RSent.none_ (.of (fun _ h => .inl h) (HH.out.drewN _)) ((Chg.refl _ _).drewN _)⟩
  | true =>
    have HIN := Lib.hid hin
    have x6 : w.cell? ⟨g, 6, none⟩ = some (.int .u64 (x.term : Int)) := h.c rfl
    have hterm := hok.term
    have hw : IntKind.u64.wrap ((x.term : Int) + 1) = (x.term : Int) + 1 := by rw [IntKind.wrap_u64]; omega
    have x1 : w.cell? ⟨g, 1, none⟩ = some (.int .i64 x.vote) := h.c rfl
    have x2 : w.cell? ⟨g, 2, none⟩ = some (.int .i64 x.role) := h.c rfl
    have x3 : w.cell? ⟨g, 3, none⟩ = some (.int .i64 x.lead) := h.c rfl
    have x5 : w.cell? ⟨g, 5, none⟩ = some (.slice yA x.yes.length yc) := h.c rfl
    have f1 := h.blk.frozen 1
    have f2 := h.blk.frozen 2
    have f3 := h.blk.frozen 3
    have f5 := h.blk.frozen 5
    have f6 := h.blk.frozen 6
    have hgl := h.blk.lt
    clear hin h hok
    go_enter Try.func35, Try.ntmps35
    go_wp2_with fail
    go_quiet ((go_at_call 65; exact Calls.quiet_of (rhas_quiet (HSC.out.drewN _) HIN.out)))
    go_wp2_with fail
    have hbe := (HH.out.blk.drewN nq).set_ 2 (.int .i64 1)
    have hge := only_setCell (grown_of_below (below_drewN (Below.refl _ w) nq) (some g)) 2 (.int .i64 1)
    have hk := HH.out.asked (y := { x with role := 1 }) hge (by simpa [RQ.cells, RQ.head] using hbe) rfl rfl rfl rfl rfl
    simp only [size_setCell', drewN_size'] at hk
    generalize hwf : ((((w.drewN nq).setCell ⟨g, 2, none⟩ (.int .i64 1)).setCell ⟨g, 3, none⟩ (.int .i64 (-1))).setCell ⟨g, 5, none⟩ (.slice (some ⟨w.heap.size, 0, none⟩) 1 1)).alloc (.cells #[.int .i64 x.me] 3) = wf at hk ⊢
    clear hbe hge
    obtain ⟨S', hN, hS', hC⟩ := hk
    have hN : RN H wf S' g _ x.asks := hN
    have c0 : wf.cell? ⟨g, 0, none⟩ = some (.int .i64 x.me) := hN.c rfl
    have c4 : wf.cell? ⟨g, 4, none⟩ = some (.slice cA x.conf.length cc) := hN.c rfl
    have c5 : wf.cell? ⟨g, 5, none⟩ = some (.slice (some ⟨w.heap.size, 0, none⟩) 1 1) := hN.c rfl
    have HSY := Lib.hid hN.yes.1
    have HSC2 := Lib.hid hN.conf.1
    have HN := Lib.hid hN
    have HS' := Lib.hid hS'
    have HC := Lib.hid hC
    clear hwf hN hS' hC x0 x1 x2 x3 x4 x5 x6 f1 f2 f3 f5 f6 HSC
    cases hag : agrees x.conf [x.me] with
    | true =>
      have HAG := Lib.hid hag
      clear hag
      go_quiet ((go_at_call 66; exact Calls.quiet_of (ragrees_quiet (HSC2.out.drewN _) (HSY.out.drewN _) HOK.out.conf HAG.out)))
      go_wp2_with fail
      refine (rask_real (x := x.asks) _ (HN.out.drewN _) ⟨HOK.out.base, HOK.out.es, HOK.out.conf, HOK.out.me0, HOK.out.me16, HOK.out.term⟩).mono ?_
      rintro e w5 ⟨v, rfl, hsent⟩
      go_wp2_with fail
      go_ret
      have he : x.askPre = x.asks.askReal := by unfold ND.askPre; rw [HIN.out, HAG.out]; rfl
      rw [he]
      exact ⟨_, rfl, RSent.behind HS'.out (HC.out.drewN _) hsent⟩
    | false =>
      have HAG := Lib.hid hag
      clear hag
      go_quiet ((go_at_call 66; exact Calls.quiet_of (ragrees_quiet (HSC2.out.drewN _) (HSY.out.drewN _) HOK.out.conf HAG.out)))
      go_wp2_with fail
      refine (rothers_any (wf.drewN nq) (HN.out.drewN _) HOK.out.conf).mono ?_
      rintro e w1 ⟨v1, rfl, hown, hb1⟩
      have h1N := (HN.out.drewN nq).after hb1
      have y0 : w1.cell? ⟨g, 0, none⟩ = some (.int .i64 x.me) := h1N.c rfl
      have y8 : w1.cell? ⟨g, 8, none⟩ = some (.int .u64 (x.base : Int)) := h1N.c rfl
      have y9 : w1.cell? ⟨g, 9, none⟩ = some (.int .u64 (x.bt : Int)) := h1N.c rfl
      have y10 : w1.cell? ⟨g, 10, none⟩ = some (.slice eA x.es.length ec) := h1N.c rfl
      have hw1 : wf.heap.size ≤ w1.heap.size := hb1.size
      have hgl1 : g < w1.heap.size := h1N.blk.lt
      have HX : Hid (∀ W, Below w1.heap.size w1 W → W.cell? ⟨g, 0, none⟩ = some (.int .i64 x.me) ∧ W.cell? ⟨g, 8, none⟩ = some (.int .u64 (x.base : Int)) ∧ W.cell? ⟨g, 9, none⟩ = some (.int .u64 (x.bt : Int)) ∧ W.cell? ⟨g, 10, none⟩ = some (.slice eA x.es.length ec)) := fun W hW => ⟨cell_below hW y0, cell_below hW y8, cell_below hW y9, cell_below hW y10⟩
      have HES := Lib.hid h1N.es.1
      have HT : Hid (∀ W, Below w1.heap.size w1 W → Calls Try.prog 25 #[.agg #[.int .u64 (x.base : Int), .int .u64 (x.bt : Int), .slice eA x.es.length ec]] W fun e w' => e = .returned (.int .u64 (x.lastT : Int)) ∧ Below W.heap.size W w') := fun W hW => rlastTerm_any x.base x.bt x.es.length ec 0 w1.heap.size eA x.es W (HES.out.after (by decide) hW) HOK.out.base (by have := HOK.out.es; omega)
      have HL : Hid (∀ W, Calls Try.prog 23 #[.agg #[.int .u64 (x.base : Int), .int .u64 (x.bt : Int), .slice eA x.es.length ec]] W fun e w' => e = .returned (.int .u64 (x.last : Int)) ∧ Below W.heap.size W w') := fun W => by
        have := rlast_any x.base x.es.length ec (x.bt : Int) eA W HOK.out.base (by have := HOK.out.es; omega)
        rwa [show (x.base : Int) + (x.es.length : Int) = (x.last : Int) from by unfold ND.last; omega] at this
      have HN1 := Lib.hid h1N
      have HTA := Lib.hid (show x.toAll 3 (x.term + 1) x.last x.lastT = x.others.map (fun d => (⟨3, x.me, d, x.term + 1, x.last, x.lastT, false⟩ : Ms)) from rfl)
      have hol : x.others.length ≤ 1000 := Nat.le_trans (List.length_filter_le _ _) hcl
      have hown : w1.ownsRow wf.heap.size 3 1 v1 x.others.length (x.others.map iv) := hown
      generalize x.others = xo at HTA hol hown
      obtain ⟨A1, c1, hv1, hsl1⟩ := own_sl hown
      subst hv1
      obtain ⟨n, hn⟩ : ∃ n, xo.length = n := ⟨_, rfl⟩
      rw [hn] at hsl1 hol ⊢
      have HNN := Lib.hid hn
      have HSL := Lib.hid hsl1
      have HB1 := Lib.hid hb1
      clear hn hsl1 hown hb1 h1N y0 y8 y9 y10 c0 c4 c5
      obtain ⟨i0, hi0, hz0, hz1, hz2⟩ := info_parts msg_info
      go_wp2_with fail
      go_loopw [9, 11] (fun v ii wr => ∃ j : Nat, j ≤ n ∧ ii = .int .i64 j ∧ wr.ownsRow w1.heap.size 81 10 v j (mcells ((xo.take j).map (fun d => (⟨3, x.me, d, x.term + 1, x.last, x.lastT, false⟩ : Ms)))) ∧ Below w1.heap.size w1 wr) (fun _ ii _ => n - (intOf ii).toNat)
      case atStart => exact ⟨0, Nat.zero_le _, rfl, World.ownsRow_nil _ _ _ _, Below.refl _ _⟩
      case round =>
        obtain ⟨j, hj, rfl, hrow, hbr⟩ := hrel
        obtain ⟨A, c, rfl, -⟩ := own_sl hrow
        have HROW := Lib.hid hrow
        have HBR := Lib.hid hbr
        by_cases hjn : j < n
        · have hjn' : (j : Int) < (n : Int) := by omega
          obtain ⟨ad, dd, rfl, hto, z1⟩ := HSL.out.int hjn
          have HTO := Lib.hid hto
          obtain ⟨y0, y8, y9, y10⟩ := HX.out _ hbr
          have z0 := cell_below hbr z1
          have HK : Hid (∀ W, Aft w1 W → W.cell? ⟨g, 0, none⟩ = some (.int .i64 x.me) ∧ W.cell? ⟨g, 8, none⟩ = some (.int .u64 (x.base : Int)) ∧ W.cell? ⟨g, 9, none⟩ = some (.int .u64 (x.bt : Int)) ∧ W.cell? ⟨g, 10, none⟩ = some (.slice eA x.es.length ec) ∧ W.cell? (ad.add j) = some (.int .i64 dd)) := fun W hW => by
            obtain ⟨q1, q2, q3, q4⟩ := HX.out W hW
            exact ⟨q1, q2, q3, q4, cell_below hW z1⟩
          have ha0 : Aft w1 wr := hbr
          have ha0' : Aft w1 wr.drew := ha0.drew
          have HE : Hid (([.int .i64 3, .int .i64 x.me, .int .i64 dd, .int .u64 ((x.term : Int) + 1), .int .u64 (x.last : Int), .int .u64 (x.lastT : Int), .int .u64 0, .bool false, .slice none 0 0, .slice none 0 0] : List Value) = Ms.cells ⟨3, x.me, dd, x.term + 1, x.last, x.lastT, false⟩) := rfl
          clear hrow hbr hto z1
          go_wp2_with fail
          go_region_held3 (fun W' => W'.cell? ⟨g, 0, none⟩ = some (.int .i64 x.me) ∧ W'.cell? ⟨g, 8, none⟩ = some (.int .u64 (x.base : Int)) ∧ W'.cell? ⟨g, 9, none⟩ = some (.int .u64 (x.bt : Int)) ∧ W'.cell? ⟨g, 10, none⟩ = some (.slice eA x.es.length ec) ∧ W'.cell? (ad.add j) = some (.int .i64 dd)) (first | (with_reducible exact HK.out _ ha6) | (with_reducible exact HK.out _ ha5) | (with_reducible exact HK.out _ ha4) | (with_reducible exact HK.out _ ha0') | (with_reducible exact HK.out _ ha0) | (with_reducible exact HK.out _ (Aft.alloc ha5 _)) | (with_reducible exact HK.out _ (Aft.alloc ha4 _)) | go_keep) (first
            | (go_at_call 23; refine (HL.out _).mono ?_; rintro e w4 ⟨rfl, hb4⟩; have ha4 : Aft w1 w4 := Aft.call (by first | exact ha5 | exact ha0') hb4; have hr4 := own_after (show World.ownsRow _ w1.heap.size 81 10 (.slice A j c) j _ from by first | exact hr5 | exact HROW.out) hb4)
            | (go_at_call 25; refine (HT.out _ (by first | exact ha4 | exact ha0')).mono ?_; rintro e w5 ⟨rfl, hb5⟩; have ha5 : Aft w1 w5 := Aft.call (by first | exact ha4 | exact ha0') hb5; have hr5 := own_after (show World.ownsRow _ w1.heap.size 81 10 (.slice A j c) j _ from by first | exact hr4 | exact HROW.out) hb5)
            | (refine step_app _ rfl (.tmp 88) (.tmp 110) 57 rfl w1.heap.size 81 i0 _ 10 112 Try.underlying57 hi0 hz0 hz1 hz2 rfl (by omega) (.slice A j c) j _ (by simp [Act.eval, Act.put]) (own_alloc' hr5 _) w5.heap.size (w5.heap.size + 1) (some ⟨w5.heap.size, 0, none⟩) 1 1 [.int .i64 3, .int .i64 x.me, .int .i64 dd, .int .u64 ((x.term : Int) + 1), .int .u64 (x.last : Int), .int .u64 (x.lastT : Int), .int .u64 0, .bool false, .slice none 0 0, .slice none 0 0] (by simp [Act.eval, Act.put]) (by exact sl_at w5 w5.heap.size 10 1 1 (List.toArray [.int .i64 3, .int .i64 x.me, .int .i64 dd, .int .u64 ((x.term : Int) + 1), .int .u64 (x.last : Int), .int .u64 (x.lastT : Int), .int .u64 0, .bool false, .slice none 0 0, .slice none 0 0]) _ rfl rfl (Nat.le_refl _) (by decide)) (by rw [HE.out]; exact mc_one _) (by simp only [maxLen]; omega) (by omega) (by have := ha5.size; simp; omega) ?_; intro v6 w6 o6 g6 a6; have ha6 : Aft w1 w6 := Below.grown (Aft.alloc ha5 _) g6 (by have := ha5.size; simp; omega) (fun k hk => (HROW.out.lt k hk).1))
            | (refine step_app _ rfl (.tmp 88) (.tmp 110) 57 rfl w1.heap.size 81 i0 _ 10 112 Try.underlying57 hi0 hz0 hz1 hz2 rfl (by omega) (.slice A j c) j _ (by simp [Act.eval, Act.put]) (own_alloc' hr4 _) w4.heap.size (w4.heap.size + 1) (some ⟨w4.heap.size, 0, none⟩) 1 1 [.int .i64 3, .int .i64 x.me, .int .i64 dd, .int .u64 ((x.term : Int) + 1), .int .u64 (x.last : Int), .int .u64 (x.lastT : Int), .int .u64 0, .bool false, .slice none 0 0, .slice none 0 0] (by simp [Act.eval, Act.put]) (by exact sl_at w4 w4.heap.size 10 1 1 (List.toArray [.int .i64 3, .int .i64 x.me, .int .i64 dd, .int .u64 ((x.term : Int) + 1), .int .u64 (x.last : Int), .int .u64 (x.lastT : Int), .int .u64 0, .bool false, .slice none 0 0, .slice none 0 0]) _ rfl rfl (Nat.le_refl _) (by decide)) (by rw [HE.out]; exact mc_one _) (by simp only [maxLen]; omega) (by omega) (by have := ha4.size; simp; omega) ?_; intro v6 w6 o6 g6 a6; have ha6 : Aft w1 w6 := Below.grown (Aft.alloc ha4 _) g6 (by have := ha4.size; simp; omega) (fun k hk => (HROW.out.lt k hk).1)))
          all_goals
            clear y0 y8 y9 y10 z0
            go_wp2_with fail
            go_roundw
            case rel =>
              refine ⟨j + 1, by omega, by first | rfl | go_num, ?_, ha6⟩
              obtain ⟨q1, q2⟩ := List.getElem?_eq_some_iff.1 HTO.out
              rw [List.take_succ_eq_append_getElem q1, q2, List.map_append, mcells_append, List.map_cons, List.map_nil, mcells_one]
              exact o6
            case measure => simp [intOf]; omega
        · obtain rfl : j = n := by omega
          have hjn' : ¬ (j : Int) < (j : Int) := by omega
          clear hrow hbr
          go_wp2_with fail
          go_ret
          have hrow := own_wide HROW.out (Nat.le_trans HC.out.size hw1)
          rw [List.take_of_length_le (by rw [HNN.out]; exact Nat.le_refl _)] at hrow
          have hR := HN1.out.after HBR.out
          have hcc : Chg (GN2 g) w wr := ((HC.out.drewN nq).same (Chg.below HB1.out)).same (Chg.below HBR.out)
          have hrr : RSent H w wr S g (.slice A j c) (x.asks, x.toAll 3 (x.term + 1) x.last x.lastT) := by
            refine ⟨RTo.trans (w1 := wf) HS'.out HC.out.size ⟨S', _, hR, fun b h => .inl h⟩, hcc, ?_⟩
            show World.ownsRow _ _ _ _ _ (x.toAll 3 (x.term + 1) x.last x.lastT).length (mcells (x.toAll 3 (x.term + 1) x.last x.lastT))
            rw [HTA.out, List.length_map, HNN.out]
            exact hrow
          have he : x.askPre = (x.asks, x.toAll 3 (x.term + 1) x.last x.lastT) := by unfold ND.askPre; rw [HIN.out, HAG.out]; rfl
          rw [he]
          exact ⟨_, rfl, hrr⟩
end
end Go.Proofs.Ytbgdepaffgeinaa
