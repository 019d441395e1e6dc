/- The law's 'both': two nodes alike, or none. -/
import Derived.Test.YtbgdepaffgeinaaElRef
import Derived.Test.YtbgdepaffgeinaaElCheck
import Derived.Test.YtbgdepaffgeinaaElBegun
import Derived.Deep.DeepCutAuto
namespace Go.Proofs.Ytbgdepaffgeinaa
open Go.RowKit
set_option maxRecDepth 100000 in
theorem bshort_any (base n c : Nat) (A : Option Addr) (w : World) {r : Bool} (hr : decide (base < 1152921504606846976 ∧ n ≤ 20) = r) :
    Calls Try.prog 13 #[.int .u64 (base : Int), .slice A n c, .int .i64 20] w fun e w' => e = .returned (.bool r) ∧ w = w' := by
  by_cases h1 : base < 1152921504606846976
  · have e1 : (base : Int) < 1152921504606846976 := by omega
    by_cases h2 : n ≤ 20
    · have e2 : (n : Int) ≤ 20 := by omega
      obtain rfl : r = true := by rw [← hr]; exact decide_eq_true ⟨h1, h2⟩
      clear hr
      go_enter Try.func13, Try.ntmps13
      go_wp2
      go_ret
      exact ⟨rfl, rfl⟩
    · have e2 : ¬ (n : Int) ≤ 20 := by omega
      obtain rfl : r = false := by rw [← hr]; exact decide_eq_false (fun h => h2 h.2)
      clear hr
      go_enter Try.func13, Try.ntmps13
      go_wp2
      go_ret
      exact ⟨rfl, rfl⟩
  · have e1 : ¬ (base : Int) < 1152921504606846976 := by omega
    obtain rfl : r = false := by rw [← hr]; exact decide_eq_false (fun h => h1 h.1)
    clear hr
    go_enter Try.func13, Try.ntmps13
    go_wp2
    go_ret
    exact ⟨rfl, rfl⟩
/-- a node set up: its numbers, a log that came in, nobody's yes -/
theorem NodeP.setup {H : Nat} {w w1 : World} {O : Nat → Prop} {b er ec : Nat} {eA : Option Addr} {p : NP} {x x' : ND} (h : NodeP H w O b p x) (hg : w.grownBy w1 (some b)) (hb : Blk w1 b 75 (NP.cells ⟨p.cA, p.cc, .slice none 0 0, eA, ec, er, p.nv, p.mv⟩ x')) (hconf : x'.conf = x.conf) (hyes : x'.yes = []) (hn : x'.next = x.next) (hm : x'.mt = x.mt)
    (hes : Sl w1 er (er + 1) 3 eA x'.es.length ec (ecells x'.es)) (hesO : 0 < x'.es.length → er < H) : NodeP H w1 O b ⟨p.cA, p.cc, .slice none 0 0, eA, ec, er, p.nv, p.mv⟩ x' := by
  have far : ∀ {size n : Nat} {e : TypeId} {v : Value} {zs : List Value}, 75 ≠ e → w.ownsRow 0 e size v n zs → w1.ownsRow 0 e size v n zs := fun ht hr => hr.kept hg (.inr (row_ne hr h.blk ht))
  have htop : ∀ k, O k → k < w1.heap.size := fun k hk => Nat.lt_of_lt_of_le (h.top k hk) hg.size
  have hcv : NP.cv ⟨p.cA, p.cc, .slice none 0 0, eA, ec, er, p.nv, p.mv⟩ x' = NP.cv p x := by show Value.slice p.cA x'.conf.length p.cc = Value.slice p.cA x.conf.length p.cc; rw [hconf]
  refine ⟨h.low, htop, h.bO, hb, ?_, ?_, ?_, (fun k hk => by cases hk), by rw [hn]; exact far (by decide) h.next, fun k hk => ⟨(h.nextO k hk).1, (h.nextO k hk).2⟩, by rw [hm]; exact far (by decide) h.mt, fun k hk => h.mtO k hk, hes, fun hn => ⟨.inl (hesO hn), fun hw => ?_⟩⟩
  · rw [hcv, hconf]; exact far (by decide) h.conf
  · intro k hk
    rw [hcv] at hk
    exact ⟨(h.confO k hk).1, fun e => by cases e⟩
  · rw [hyes]; exact World.ownsRow_nil _ _ _ _
  · have h1 : er < H := hesO hn
    have hw' : er = b ∨ (Value.slice none 0 0).ownBlock = some er ∨ p.nv.ownBlock = some er ∨ p.mv.ownBlock = some er := hw
    rcases hw' with hw | hw | hw | hw
    · have := h.low _ h.bO; omega
    · cases hw
    · have := h.low _ (h.nextO _ hw).1; omega
    · have := h.low _ (h.mtO _ hw); omega
theorem Sl.blockOf {w : World} {lo hi size n c : Nat} {A : Option Addr} {xs : List Value} (h : Sl w lo hi size A n c xs) (hs : 0 < size) : ∃ er, Sl w er (er + 1) size A n c xs ∧ (0 < n → er < w.heap.size) := by
  rcases Nat.eq_zero_or_pos n with h0 | h0
  · exact ⟨0, ⟨h.len, h.cap, h.max, fun hn => by omega⟩, fun hn => by omega⟩
  · obtain ⟨ad, e, h1, h2, hc⟩ := h.at_ h0
    exact ⟨ad.block, ⟨h.len, h.cap, h.max, fun _ => ⟨ad, e, Nat.le_refl _, Nat.lt_succ_self _, hc⟩⟩, fun _ => h.lt hs h0 e⟩
def setND (me : Int) (xs : List Int) (role vote : Int) (term base bt : Nat) (es : List Ent) (heard : Bool) : ND := { ND.fresh me xs with role := role, vote := vote, term := term, base := base, bt := bt, es := es, heard := heard }
structure MayBe (me : Int) (xs : List Int) (role vote : Int) (term base en : Nat) : Prop where
  right : right xs = true
  base : base < 1152921504606846976
  en : en ≤ 20
  me0 : 0 ≤ me
  me15 : me ≤ 15
  role0 : 0 ≤ role
  role3 : role ≤ 3
  vote0 : -1 ≤ vote
  vote15 : vote ≤ 15
  term : term < 1152921504606846976
def BothPost (w : World) (me : Int) (xs : List Int) (role vote : Int) (term base bt : Nat) (es : List Ent) (heard : Bool) (e : Ending) (w' : World) : Prop :=
  Below w.heap.size w w' ∧ (e = .returned (.tuple #[.pointer none, .pointer none]) ∨ (MayBe me xs role vote term base es.length ∧ ∃ b p O g q S, e = .returned (.tuple #[.pointer (some ⟨b, 0, none⟩), .pointer (some ⟨g, 0, none⟩)]) ∧ NodeP w.heap.size w' O b p (setND me xs role vote term base bt es heard) ∧ RN w.heap.size w' S g q (setND me xs role vote term base bt es heard) ∧ ∀ k, O k → ¬ S k))
set_option maxRecDepth 100000 in
set_option maxHeartbeats 6400000 in
theorem both_any (me : Int) (A : Option Addr) (n c lo hi : Nat) (xs : List Int) (role vote : Int) (term base bt : Nat) (eA : Option Addr) (en ec lo' hi' : Nat) (es : List Ent) (heard : Bool) (w : World) (hs : Sl w lo hi 1 A n c (xs.map iv)) (he : Sl w lo' hi' 3 eA en ec (ecells es)) :
    Calls Try.prog 32 #[.int .i64 me, .slice A n c, .int .i64 role, .int .i64 vote, .int .u64 (term : Int), .agg #[.int .u64 (base : Int), .int .u64 (bt : Int), .slice eA en ec], .slice none 0 0, .bool heard] w (BothPost w me xs role vote term base bt es heard) := by
  have hl := ilen hs
  have hel : es.length = en := by have := he.len; rw [ecells_len] at this; omega
  have HS := Lib.hid hs
  have HE := Lib.hid he
  have HRI := Lib.hid (right_any A n c lo _ xs (w.alloc (.cells #[.int .u64 (base : Int), .int .u64 (bt : Int), .slice eA en ec] 25)) (hs.alloc (by decide) _))
  have hemax := he.max
  have hecap := he.cap
  clear hs he
  obtain ⟨rt, hrt⟩ : ∃ r, right xs = r := ⟨_, rfl⟩
  obtain ⟨sh, hsh⟩ : ∃ r, decide (base < 1152921504606846976 ∧ en ≤ 20) = r := ⟨_, rfl⟩
  have HSH := Lib.hid (bshort_any base en ec eA (w.alloc (.cells #[.int .u64 (base : Int), .int .u64 (bt : Int), .slice eA en ec] 25)) hsh)
  rw [hrt] at HRI
  cases rt with
  | false =>
    go_enter Try.func32, Try.ntmps32
    go_wp2_with fail
    refine HRI.out.mono ?_
    rintro e _ ⟨rfl, rfl⟩
    go_wp2_with fail
    refine HSH.out.mono ?_
    rintro e _ ⟨rfl, rfl⟩
    go_wp2
    go_ret2
    exact ⟨(Below.refl _ w).alloc (Nat.le_refl _) _, .inl rfl⟩
  | true =>
    cases sh with
    | false =>
      go_enter Try.func32, Try.ntmps32
      go_wp2_with fail
      refine HRI.out.mono ?_
      rintro e _ ⟨rfl, rfl⟩
      go_wp2_with fail
      refine HSH.out.mono ?_
      rintro e _ ⟨rfl, rfl⟩
      go_wp2
      go_ret2
      exact ⟨(Below.refl _ w).alloc (Nat.le_refl _) _, .inl rfl⟩
    | true =>
      by_cases h2 : me < 0
      · go_enter Try.func32, Try.ntmps32
        go_wp2_with fail
        refine HRI.out.mono ?_
        rintro e _ ⟨rfl, rfl⟩
        go_wp2_with fail
        refine HSH.out.mono ?_
        rintro e _ ⟨rfl, rfl⟩
        go_wp2
        go_ret2
        exact ⟨(Below.refl _ w).alloc (Nat.le_refl _) _, .inl rfl⟩
      · by_cases h3 : 15 < me
        · go_enter Try.func32, Try.ntmps32
          go_wp2_with fail
          refine HRI.out.mono ?_
          rintro e _ ⟨rfl, rfl⟩
          go_wp2_with fail
          refine HSH.out.mono ?_
          rintro e _ ⟨rfl, rfl⟩
          go_wp2
          go_ret2
          exact ⟨(Below.refl _ w).alloc (Nat.le_refl _) _, .inl rfl⟩
        · by_cases h4 : role < 0
          · go_enter Try.func32, Try.ntmps32
            go_wp2_with fail
            refine HRI.out.mono ?_
            rintro e _ ⟨rfl, rfl⟩
            go_wp2_with fail
            refine HSH.out.mono ?_
            rintro e _ ⟨rfl, rfl⟩
            go_wp2
            go_ret2
            exact ⟨(Below.refl _ w).alloc (Nat.le_refl _) _, .inl rfl⟩
          · by_cases h5 : 3 < role
            · go_enter Try.func32, Try.ntmps32
              go_wp2_with fail
              refine HRI.out.mono ?_
              rintro e _ ⟨rfl, rfl⟩
              go_wp2_with fail
              refine HSH.out.mono ?_
              rintro e _ ⟨rfl, rfl⟩
              go_wp2
              go_ret2
              exact ⟨(Below.refl _ w).alloc (Nat.le_refl _) _, .inl rfl⟩
            · by_cases h6 : vote < -1
              · go_enter Try.func32, Try.ntmps32
                go_wp2_with fail
                refine HRI.out.mono ?_
                rintro e _ ⟨rfl, rfl⟩
                go_wp2_with fail
                refine HSH.out.mono ?_
                rintro e _ ⟨rfl, rfl⟩
                go_wp2
                go_ret2
                exact ⟨(Below.refl _ w).alloc (Nat.le_refl _) _, .inl rfl⟩
              · by_cases h7 : 15 < vote
                · go_enter Try.func32, Try.ntmps32
                  go_wp2_with fail
                  refine HRI.out.mono ?_
                  rintro e _ ⟨rfl, rfl⟩
                  go_wp2_with fail
                  refine HSH.out.mono ?_
                  rintro e _ ⟨rfl, rfl⟩
                  go_wp2
                  go_ret2
                  exact ⟨(Below.refl _ w).alloc (Nat.le_refl _) _, .inl rfl⟩
                · by_cases h8 : 1152921504606846976 ≤ term
                  · have t60 : decide ((1152921504606846976 : Int) ≤ (term : Int)) = true := decide_eq_true (by omega)
                    clear h8
                    go_enter Try.func32, Try.ntmps32
                    go_wp2_with fail
                    refine HRI.out.mono ?_
                    rintro e _ ⟨rfl, rfl⟩
                    go_wp2_with fail
                    refine HSH.out.mono ?_
                    rintro e _ ⟨rfl, rfl⟩
                    go_wp2
                    go_ret2
                    exact ⟨(Below.refl _ w).alloc (Nat.le_refl _) _, .inl rfl⟩
                  · have HMB : Hid (MayBe me xs role vote term base es.length) := ⟨hrt, (of_decide_eq_true hsh).1, by rw [hel]; exact (of_decide_eq_true hsh).2, by omega, by omega, by omega, by omega, by omega, by omega, by omega⟩
                    have hn : n ≤ 1000 := by have := (right_all xs (-1) (by have := hrt; unfold right at this; simp at this; exact this.1)).1; omega
                    have HN := Lib.hid (fun W (hW : Below w.heap.size w W) => enew_any w.heap.size me A n c lo _ xs W (HS.out.after (by decide) hW) hn hW.size)
                    have HR := Lib.hid (fun W (hW : Below w.heap.size w W) => rnew_any w.heap.size me A n c lo _ xs W (HS.out.after (by decide) hW) hn hW.size)
                    have t60 : decide ((1152921504606846976 : Int) ≤ (term : Int)) = false := decide_eq_false (by omega)
                    have D1 : Below w.heap.size w (w.alloc (.cells #[.int .u64 (base : Int), .int .u64 (bt : Int), .slice eA en ec] 25)) := (Below.refl _ w).alloc (Nat.le_refl _) _
                    have B1 := Blk.new w 25 #[.int .u64 (base : Int), .int .u64 (bt : Int), .slice eA en ec]
                    have HD1 := Lib.hid D1
                    have HB1 := Lib.hid B1
                    clear D1 B1 hrt hsh h8
                    go_enter Try.func32, Try.ntmps32
                    go_wp2_with fail
                    refine HRI.out.mono ?_
                    rintro e _ ⟨rfl, rfl⟩
                    go_wp2_with fail
                    refine HSH.out.mono ?_
                    rintro e _ ⟨rfl, rfl⟩
                    go_wp2_with fail
                    refine (HN.out _ HD1.out).mono ?_
                    rintro e w2 ⟨b, p, O, rfl, hN2, hO2, hb2⟩
                    have D2 := HD1.out.trans (hb2.mono HD1.out.size)
                    have B2 := HB1.out.after hb2
                    have HN2 := Lib.hid hN2
                    have HO2 := Lib.hid hO2
                    have HD2 := Lib.hid D2
                    have HB2 := Lib.hid B2
                    clear hN2 hO2 hb2 D2 B2 HD1 HB1 HN
                    go_wp2_with fail
                    refine (HR.out _ HD2.out).mono ?_
                    rintro e w3 ⟨g, q, S, rfl, hR3, hS3, hb3⟩
                    have hN3 := HN2.out.after hb3
                    have D3 := HD2.out.trans (hb3.mono HD2.out.size)
                    have B3 := HB2.out.after hb3
                    have hbO : w.heap.size < b := by have := HO2.out b HN2.out.bO; simp at this; omega
                    have hgS : w2.heap.size ≤ g := hS3 g hR3.gS
                    have hbl : b < w2.heap.size := HN2.out.blk.lt
                    have hgl : g < w3.heap.size := hR3.blk.lt
                    have hbl3 : b < w3.heap.size := hN3.blk.lt
                    have hw2 := B3.lt
                    have hne1 : b ≠ w.heap.size := by omega
                    have hne2 : g ≠ w.heap.size := by omega
                    have hne3 : g ≠ b := by omega
                    have hne4 : b ≠ g := by omega
                    have hne5 : w.heap.size ≠ b := by omega
                    have hne6 : w.heap.size ≠ g := by omega
                    obtain ⟨z0, z1, z2⟩ := B3.c3
                    have hbk := hN3.blk
                    have x1 : w3.cell? ⟨b, 1, none⟩ = some (.int .i64 (-1)) := hbk.cell 1
                    have x2 : w3.cell? ⟨b, 2, none⟩ = some (.int .i64 0) := hbk.cell 2
                    have x5 : w3.cell? ⟨b, 5, none⟩ = some p.yv := hbk.cell 5
                    have x6 : w3.cell? ⟨b, 6, none⟩ = some (.int .u64 0) := hbk.cell 6
                    have x8 : w3.cell? ⟨b, 8, none⟩ = some (.int .u64 0) := hbk.cell 8
                    have x9 : w3.cell? ⟨b, 9, none⟩ = some (.int .u64 0) := hbk.cell 9
                    have x10 : w3.cell? ⟨b, 10, none⟩ = some (.slice p.eA 0 p.ec) := hbk.cell 10
                    have x11 : w3.cell? ⟨b, 11, none⟩ = some (.bool false) := hbk.cell 11
                    have y1 : w3.cell? ⟨g, 1, none⟩ = some (.int .i64 (-1)) := hR3.c rfl
                    have y2 : w3.cell? ⟨g, 2, none⟩ = some (.int .i64 0) := hR3.c rfl
                    have y5 : w3.cell? ⟨g, 5, none⟩ = some (.slice q.yA 0 q.yc) := hR3.c rfl
                    have y6 : w3.cell? ⟨g, 6, none⟩ = some (.int .u64 0) := hR3.c rfl
                    have y8 : w3.cell? ⟨g, 8, none⟩ = some (.int .u64 0) := hR3.c rfl
                    have y9 : w3.cell? ⟨g, 9, none⟩ = some (.int .u64 0) := hR3.c rfl
                    have y10 : w3.cell? ⟨g, 10, none⟩ = some (.slice q.eA 0 q.ec) := hR3.c rfl
                    have y11 : w3.cell? ⟨g, 11, none⟩ = some (.bool false) := hR3.c rfl
                    have f1 := hbk.frozen 1
                    have f2 := hbk.frozen 2
                    have f5 := hbk.frozen 5
                    have f6 := hbk.frozen 6
                    have f8 := hbk.frozen 8
                    have f9 := hbk.frozen 9
                    have f10 := hbk.frozen 10
                    have f11 := hbk.frozen 11
                    have k1 := hR3.blk.frozen 1
                    have k2 := hR3.blk.frozen 2
                    have k5 := hR3.blk.frozen 5
                    have k6 := hR3.blk.frozen 6
                    have k8 := hR3.blk.frozen 8
                    have k9 := hR3.blk.frozen 9
                    have k10 := hR3.blk.frozen 10
                    have k11 := hR3.blk.frozen 11
                    have HN3 := Lib.hid hN3
                    have HR3 := Lib.hid hR3
                    have HS3 := Lib.hid hS3
                    have HD3 := Lib.hid D3
                    have HBK := Lib.hid hbk
                    clear hN3 hR3 hS3 hb3 D3 B3 hbk HB2 HD2 HR
                    go_wp2
                    have hg1 : w3.grownBy ((((((((w3.setCell ⟨b, 2, none⟩ (.int .i64 role)).setCell ⟨b, 1, none⟩ (.int .i64 vote)).setCell ⟨b, 6, none⟩ (.int .u64 (term : Int))).setCell ⟨b, 8, none⟩ (.int .u64 (base : Int))).setCell ⟨b, 9, none⟩ (.int .u64 (bt : Int))).setCell ⟨b, 10, none⟩ (.slice eA en ec)).setCell ⟨b, 5, none⟩ (.slice none 0 0)).setCell ⟨b, 11, none⟩ (.bool heard)) (some b) := (only_setCell (only_setCell (only_setCell (only_setCell (only_setCell (only_setCell (only_setCell (only_setCell (World.grownBy.refl w3 (some b)) 2 (.int .i64 role)) 1 (.int .i64 vote)) 6 (.int .u64 (term : Int))) 8 (.int .u64 (base : Int))) 9 (.int .u64 (bt : Int))) 10 (.slice eA en ec)) 5 (.slice none 0 0)) 11 (.bool heard))
                    have hbk1 : Blk ((((((((w3.setCell ⟨b, 2, none⟩ (.int .i64 role)).setCell ⟨b, 1, none⟩ (.int .i64 vote)).setCell ⟨b, 6, none⟩ (.int .u64 (term : Int))).setCell ⟨b, 8, none⟩ (.int .u64 (base : Int))).setCell ⟨b, 9, none⟩ (.int .u64 (bt : Int))).setCell ⟨b, 10, none⟩ (.slice eA en ec)).setCell ⟨b, 5, none⟩ (.slice none 0 0)).setCell ⟨b, 11, none⟩ (.bool heard)) b 75 _ := ((((((((HBK.out.set_ 2 (.int .i64 role)).set_ 1 (.int .i64 vote)).set_ 6 (.int .u64 (term : Int))).set_ 8 (.int .u64 (base : Int))).set_ 9 (.int .u64 (bt : Int))).set_ 10 (.slice eA en ec)).set_ 5 (.slice none 0 0)).set_ 11 (.bool heard))
                    generalize hqw3 : ((((((((w3.setCell ⟨b, 2, none⟩ (.int .i64 role)).setCell ⟨b, 1, none⟩ (.int .i64 vote)).setCell ⟨b, 6, none⟩ (.int .u64 (term : Int))).setCell ⟨b, 8, none⟩ (.int .u64 (base : Int))).setCell ⟨b, 9, none⟩ (.int .u64 (bt : Int))).setCell ⟨b, 10, none⟩ (.slice eA en ec)).setCell ⟨b, 5, none⟩ (.slice none 0 0)).setCell ⟨b, 11, none⟩ (.bool heard)) = wa at hg1 hbk1 ⊢
                    have hg2 : wa.grownBy ((((((((wa.setCell ⟨g, 2, none⟩ (.int .i64 role)).setCell ⟨g, 1, none⟩ (.int .i64 vote)).setCell ⟨g, 6, none⟩ (.int .u64 (term : Int))).setCell ⟨g, 8, none⟩ (.int .u64 (base : Int))).setCell ⟨g, 9, none⟩ (.int .u64 (bt : Int))).setCell ⟨g, 10, none⟩ (.slice eA en ec)).setCell ⟨g, 5, none⟩ (.slice none 0 0)).setCell ⟨g, 11, none⟩ (.bool heard)) (some g) := (only_setCell (only_setCell (only_setCell (only_setCell (only_setCell (only_setCell (only_setCell (only_setCell (World.grownBy.refl wa (some g)) 2 (.int .i64 role)) 1 (.int .i64 vote)) 6 (.int .u64 (term : Int))) 8 (.int .u64 (base : Int))) 9 (.int .u64 (bt : Int))) 10 (.slice eA en ec)) 5 (.slice none 0 0)) 11 (.bool heard))
                    have hR1 : RN w.heap.size wa S g q (ND.fresh me xs) := HR3.out.other (O := fun k => k = b) (Chg.grown hg1 fun k e => by cases e; exact .inl rfl) (fun k hk e => by have := HS3.out k hk; have e' : k = b := e; omega) (fun k e => by have e' : k = b := e; omega)
                    have hbk2 : Blk ((((((((wa.setCell ⟨g, 2, none⟩ (.int .i64 role)).setCell ⟨g, 1, none⟩ (.int .i64 vote)).setCell ⟨g, 6, none⟩ (.int .u64 (term : Int))).setCell ⟨g, 8, none⟩ (.int .u64 (base : Int))).setCell ⟨g, 9, none⟩ (.int .u64 (bt : Int))).setCell ⟨g, 10, none⟩ (.slice eA en ec)).setCell ⟨g, 5, none⟩ (.slice none 0 0)).setCell ⟨g, 11, none⟩ (.bool heard)) g 98 _ := ((((((((hR1.blk.set_ 2 (.int .i64 role)).set_ 1 (.int .i64 vote)).set_ 6 (.int .u64 (term : Int))).set_ 8 (.int .u64 (base : Int))).set_ 9 (.int .u64 (bt : Int))).set_ 10 (.slice eA en ec)).set_ 5 (.slice none 0 0)).set_ 11 (.bool heard))
                    generalize hqwa : ((((((((wa.setCell ⟨g, 2, none⟩ (.int .i64 role)).setCell ⟨g, 1, none⟩ (.int .i64 vote)).setCell ⟨g, 6, none⟩ (.int .u64 (term : Int))).setCell ⟨g, 8, none⟩ (.int .u64 (base : Int))).setCell ⟨g, 9, none⟩ (.int .u64 (bt : Int))).setCell ⟨g, 10, none⟩ (.slice eA en ec)).setCell ⟨g, 5, none⟩ (.slice none 0 0)).setCell ⟨g, 11, none⟩ (.bool heard)) = wb at hg2 hbk2 ⊢
                    clear hqw3 hqwa
                    have hbel1 : Below w.heap.size w wa := HD3.out.grown hg1 HD3.out.size (fun k e => by cases e; omega)
                    have hbel2 : Below w.heap.size w wb := hbel1.grown hg2 hbel1.size (fun k e => by cases e; omega)
                    obtain ⟨er, hes, her⟩ := HE.out.blockOf (by decide)
                    have hes1 : Sl wa er (er + 1) 3 eA en ec (ecells es) := hes.stay fun hn => hbel1.block er (her hn)
                    have hes2 : Sl wb er (er + 1) 3 eA en ec (ecells es) := hes.stay fun hn => hbel2.block er (her hn)
                    have hN1 : NodeP w.heap.size wa O b ⟨p.cA, p.cc, .slice none 0 0, eA, ec, er, p.nv, p.mv⟩ (setND me xs role vote term base bt es heard) := by
                      refine HN3.out.setup hg1 ?_ rfl rfl rfl rfl (by show Sl wa er (er + 1) 3 eA es.length ec (ecells es); rw [hel]; exact hes1) (fun hn => her (by have : 0 < es.length := hn; omega))
                      unfold NP.cells setND
                      rw [hel]
                      simpa [NP.cells, ND.fresh] using hbk1
                    have hOg : ∀ k, O k → ¬ k = g := fun k hk e => by have := HN2.out.top k hk; omega
                    have hN2 := hN1.other (O' := fun k => k = g) (Chg.grown hg2 fun k e => by cases e; exact .inl rfl) hOg (fun k e => by have e' : k = g := e; omega)
                    have hch : Chg (GN2 g) wa wb := Chg.grown hg2 fun k e => by cases e; exact .inl rfl
                    obtain ⟨S', hR2, hS'⟩ := hR1.turn hch (q' := ⟨q.cA, q.cc, none, 0, eA, ec⟩) (x' := setND me xs role vote term base bt es heard) rfl rfl
                      (by unfold RQ.cells RQ.head setND; rw [hel]; simpa [RQ.cells, RQ.head, ND.fresh] using hbk2)
                      (hR1.kept hch hR1.conf) (Rd.nil _ _ _ _ _) (by
                        refine ⟨?_, fun ad e hn => ?_⟩
                        · show Sl wb 0 wb.heap.size 3 eA es.length ec (ecells es)
                          rw [hel]
                          exact (hes2.now (by decide)).wide (Nat.zero_le _) (Nat.le_refl _)
                        · have hn' : 0 < en := by have : 0 < es.length := hn; omega
                          obtain ⟨ad', e', h1, h2, -⟩ := hes2.at_ hn'
                          have e2 : eA = some ad := e
                          rw [e2] at e'
                          injection e' with e'
                          subst e'
                          have := her hn'
                          exact ⟨.inl (by omega), by omega⟩)
                    go_ret2
                    exact ⟨hbel2, .inr ⟨HMB.out, b, _, O, g, _, S', rfl, hN2, hR2, fun k hk hk' => by
                      rcases hS' k hk' with h | h
                      · have := HS3.out k h; have := HN2.out.top k hk; omega
                      · have := HN2.out.top k hk; have := hg1.size; omega⟩⟩
end Go.Proofs.Ytbgdepaffgeinaa
