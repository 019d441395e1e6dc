/- The law ElectAsks, walked. -/
import Derived.Test.YtbgdepaffgeinaaElSame
import Derived.Test.YtbgdepaffgeinaaElBoth
import Derived.Test.YtbgdepaffgeinaaElAwake
import Derived.Test.YtbgdepaffgeinaaElAskP
namespace Go.Proofs.Ytbgdepaffgeinaa
open Go.RowKit
def ND.askR (x : ND) (r : Bool) : ND × List Ms := if r then x.askReal else x.askPre
theorem askReal_facts (x : ND) : x.askReal.1.conf = x.conf ∧ x.askReal.1.me = x.me ∧ ∀ w, EData w x.es → EData w x.askReal.1.es := by
  have hT : ∀ (w : World) (t : Nat), EData w [tent t] := fun w t e he => by rw [List.mem_singleton.1 he]; exact nilB w
  unfold ND.askReal
  split
  · split
    · exact ⟨rfl, rfl, fun w h => h.append (hT w _)⟩
    · exact ⟨rfl, rfl, fun _ h => h⟩
  · exact ⟨rfl, rfl, fun _ h => h⟩
theorem askR_facts (x : ND) (r : Bool) : (x.askR r).1.conf = x.conf ∧ (x.askR r).1.me = x.me ∧ ∀ w, EData w x.es → EData w (x.askR r).1.es := by
  cases r with
  | true => exact askReal_facts x
  | false =>
    show x.askPre.1.conf = x.conf ∧ x.askPre.1.me = x.me ∧ ∀ w, EData w x.es → EData w x.askPre.1.es
    unfold ND.askPre
    split
    · split
      · exact askReal_facts x.asks
      · exact ⟨rfl, rfl, fun _ h => h⟩
    · exact ⟨rfl, rfl, fun _ h => h⟩
theorem ask_any {H : Nat} {O : Nat → Prop} {b : Nat} {p : NP} {x : ND} (r : Bool) (w : World) (h : NodeP H w O b p x) (hok : x.Ok) :
    Calls Try.prog 34 #[.pointer (some ⟨b, 0, none⟩), .bool r] w fun e w' => ∃ v, e = .returned v ∧ Sent H w w' O b v (x.askR r) := by
  cases r with
  | true => exact ask_real w h hok
  | false => exact ask_pre w h hok
theorem rask_any {H : Nat} {S : Nat → Prop} {g : Nat} {q : RQ} {x : ND} (r : Bool) (w : World) (h : RN H w S g q x) (hok : x.Ok) :
    Calls Try.prog 35 #[.pointer (some ⟨g, 0, none⟩), .bool r] w fun e w' => ∃ v, e = .returned v ∧ RSent H w w' S g v (x.askR r) := by
  cases r with
  | true => exact rask_real w h hok
  | false => exact rask_pre w h hok
theorem mayBe_ok {me : Int} {xs : List Int} {role vote : Int} {term base bt : Nat} {es : List Ent} {heard : Bool} (h : MayBe me xs role vote term base es.length) : (setND me xs role vote term base bt es heard).Ok := by
  have hr := h.right
  unfold right at hr
  simp only [Bool.and_eq_true] at hr
  have hl := (right_all xs (-1) hr.1).1
  have h1 := h.base
  have h2 := h.en
  have h3 := h.me0
  have h4 := h.me15
  have h5 := h.term
  exact ⟨h1, by show es.length ≤ 900; omega, by show xs.length ≤ 1000; omega, h3, by show me < 16; omega, by show term < 4611686018427387904; omega⟩
set_option maxRecDepth 100000 in
set_option maxHeartbeats 12800000 in
theorem electAsks_any (me : Int) (A : Option Addr) (n c lo hi : Nat) (xs : List Int) (role vote : Int) (term base bt : Nat) (eA : Option Addr) (en ec lo' hi' : Nat) (es : List Ent) (r : Bool) (t : Nat) (l : Int)
    (w : World) (hs : Sl w lo hi 1 A n c (xs.map iv)) (he : Sl w lo' hi' 3 eA en ec (ecells es)) (hE : EData w es) :
    Calls Try.prog 8 #[.int .i64 me, .slice A n c, .int .i64 role, .int .i64 vote, .int .u64 (term : Int), .agg #[.int .u64 (base : Int), .int .u64 (bt : Int), .slice eA en ec], .bool r, .int .u64 (t : Int), .int .i64 l] w fun e w' => e = .returned (.bool true) ∧ Below w.heap.size w w' := by
  have HBO := Lib.hid (fun W (hW : Below w.heap.size w W) => both_any me A n c lo _ xs role vote term base bt eA en ec lo' _ es false W (hs.after (by decide) hW) (he.after (by decide) hW))
  have HSS := Lib.hid (fun W (hW : Below w.heap.size w W) => hs.after (by decide) hW)
  have HED := Lib.hid hE
  have B0 := Blk.new w 25 #[.int .u64 (base : Int), .int .u64 (bt : Int), .slice eA en ec]
  have D0 : Below w.heap.size w (w.alloc (.cells #[.int .u64 (base : Int), .int .u64 (bt : Int), .slice eA en ec] 25)) := (Below.refl _ w).alloc (Nat.le_refl _) _
  have HLN := Lib.hid (ilen hs)
  clear hs he hE
  go_enter Try.func8, Try.ntmps8
  go_wp2_with fail
  refine (awake11_any _).mono ?_
  rintro e w1 ⟨rfl, hb1⟩
  have B1 := B0.after hb1
  have D1 := D0.trans (hb1.mono D0.size)
  obtain ⟨z0, z1, z2⟩ := B1.c3
  have HD1 := Lib.hid D1
  clear B0 D0 hb1 B1 D1
  go_wp2_with fail
  refine (HBO.out w1 HD1.out).mono ?_
  rintro e w2 ⟨hb2, hres⟩
  have D2 := HD1.out.trans (hb2.mono HD1.out.size)
  have HD2 := Lib.hid D2
  clear D2 z0 z1 z2 HBO
  rcases hres with rfl | ⟨hmb, b, p, O, g, q, S, rfl, hN, hR, hOS⟩
  · go_wp2_with fail
    go_ret
    exact ⟨rfl, HD2.out⟩
  · by_cases h8 : 1152921504606846976 ≤ t
    · have t60 : decide ((1152921504606846976 : Int) ≤ (t : Int)) = true := decide_eq_true (by omega)
      clear h8 hb2 hN hR hOS
      go_wp2_with fail
      go_ret
      exact ⟨rfl, HD2.out⟩
    · have t60 : decide ((1152921504606846976 : Int) ≤ (t : Int)) = false := decide_eq_false (by omega)
      have HOK := Lib.hid (mayBe_ok hmb (bt := bt) (heard := false))
      have HESD : Hid (EData w (setND me xs role vote term base bt es false).es) := HED.out
      have HX : Hid (setND me xs role vote term base bt es false = setND me xs role vote term base bt es false) := rfl
      generalize hx : setND me xs role vote term base bt es false = x at hN hR HOK HESD HX
      have hH1 : w.heap.size ≤ w1.heap.size := HD1.out.size
      have hH2 : w1.heap.size ≤ w2.heap.size := hb2.size
      generalize w1.heap.size = H at hN hR hH1 hH2
      have hN0 := Lib.hid hN
      have hR0 := Lib.hid hR
      have hOS0 := Lib.hid hOS
      have HGT : Hid (g < w2.heap.size) := hR.blk.lt
      clear h8 hb2 hN hR hOS hmb HX
      go_wp2_with fail
      refine (others_any w2 hN0.out HOK.out.conf).mono ?_
      rintro e w3 ⟨v1, rfl, hr1, hb3⟩
      have hN1 := Lib.hid (hN0.out.after hb3)
      have hR1 := Lib.hid (hR0.out.after hb3)
      have HR1 := Lib.hid hr1
      have HS3 : Hid (w2.heap.size ≤ w3.heap.size) := hb3.size
      have HD3 := Lib.hid (HD2.out.trans (hb3.mono HD2.out.size))
      clear hr1 hb3
      go_wp2_with fail
      refine (ask_any r w3 hN1.out HOK.out).mono ?_
      rintro e w4 ⟨v2, rfl, p4, O4, hN4, hs4, hc4, hr4, ha4⟩
      have HS4 : Hid (w3.heap.size ≤ w4.heap.size) := hc4.size
      have hR4 := Lib.hid (hR1.out.other hc4 (fun k hk hO => hOS0.out k hO hk) (fun k hk => hN1.out.low k hk))
      have hO4S : Hid (∀ k, O4 k → ¬ S k) := fun k hk hS => by
        rcases hs4 k hk with h | h
        · exact hOS0.out k h hS
        · have := hR0.out.top k hS; have := HS3.out; omega
      have HR14 := Lib.hid (own_chg HR1.out hc4 (fun k hk hO => by have := (HR1.out.lt k hk).1; have := hN0.out.top k hO; omega))
      have HD4 := Lib.hid (HD3.out.trans (hc4.toBelow (fun k hk => by have := hN1.out.low k hk; omega) (HD3.out.size)))
      have HR4 := Lib.hid hr4
      have HN4 := Lib.hid hN4
      clear hN4 hs4 hc4 hr4 ha4
      go_wp2_with fail
      refine (rask_any r w4 hR4.out HOK.out).mono ?_
      rintro e w5 ⟨v3, rfl, ⟨S5, q5, hR5, hS5⟩, hc5, hr5⟩
      have hgO4 : Hid (∀ k, O4 k → ¬ k = g) := fun k hk e => hO4S.out k hk (e ▸ hR0.out.gS)
      have HgH : Hid (H ≤ g) := hR0.out.low g hR0.out.gS
      have HS5 : Hid (w4.heap.size ≤ w5.heap.size) := hc5.size
      have hN5 := Lib.hid (HN4.out.other hc5 (fun k hk hg => hgO4.out k hk hg) (fun k hk => by have e : k = g := hk; have := HgH.out; omega))
      have hO5S : Hid (∀ k, O4 k → ¬ S5 k) := fun k hk hS => by
        rcases hS5 k hS with h | h
        · exact hO4S.out k hk h
        · have := HN4.out.top k hk; omega
      have HR15 := Lib.hid (own_chg HR14.out hc5 (fun k hk hg => by have e : k = g := hg; have := (HR14.out.lt k hk).1; have := HGT.out; omega))
      have HR25 := Lib.hid (own_chg HR4.out hc5 (fun k hk hg => by have e : k = g := hg; have := (HR4.out.lt k hk).1; have := HGT.out; have := HS3.out; omega))
      have HD5 := Lib.hid (HD4.out.trans (hc5.toBelow (fun k hk => by have e : k = g := hk; have := HgH.out; omega) (HD4.out.size)))
      have HR35 := Lib.hid hr5
      have HRN5 := Lib.hid hR5
      clear hR5 hS5 hc5 hr5
      obtain ⟨y, hy⟩ : ∃ y, x.askR r = y := ⟨_, rfl⟩
      have HF := Lib.hid (askR_facts x r)
      rw [hy] at HRN5 hN5 HR25 HR35 HF
      clear hy
      go_wp2_with fail
      refine (lsame_any w5 hN5.out HRN5.out ((HF.out.2.2 _ HESD.out).after HD5.out)).mono ?_
      rintro e w6 ⟨rfl, hb6⟩
      have hN6 := Lib.hid (hN5.out.after hb6)
      have hR6 := Lib.hid (HRN5.out.after hb6)
      have HR16 := Lib.hid (own_after HR15.out hb6)
      have HR26 := Lib.hid (own_after HR25.out hb6)
      have HR36 := Lib.hid (own_after HR35.out hb6)
      have HD6 := Lib.hid (HD5.out.trans (hb6.mono HD5.out.size))
      have HS6 : Hid (w5.heap.size ≤ w6.heap.size) := hb6.size
      have HGT6 : Hid (g < w3.heap.size) := by have := HGT.out; have := HS3.out; exact Nat.lt_of_lt_of_le HGT.out HS3.out
      clear hb6
      go_wp2_with fail
      refine (efollow_any t l w6 hN6.out).mono ?_
      rintro e w7 ⟨rfl, hN7, hg7⟩
      have hbH : Hid (H ≤ b) := hN0.out.low b hN0.out.bO
      have hb2 : Hid (b < w2.heap.size) := hN0.out.blk.lt
      have hc7 : Hid (Chg (fun k => k = b) w6 w7) := Chg.grown hg7 fun k e => by cases e; exact .inl rfl
      have hR7 := Lib.hid (hR6.out.other hc7.out (fun k hk e => hO5S.out k (by have e' : k = b := e; rw [e']; exact hN7.bO) hk) (fun k e => by have e' : k = b := e; have := hbH.out; omega))
      have HR17 := Lib.hid (own_chg HR16.out hc7.out (fun k hk e => by have e' : k = b := e; have := (HR16.out.lt k hk).1; have := hb2.out; omega))
      have HR27 := Lib.hid (own_chg HR26.out hc7.out (fun k hk e => by have e' : k = b := e; have := (HR26.out.lt k hk).1; have := hb2.out; have := HS3.out; omega))
      have HR37 := Lib.hid (own_chg HR36.out hc7.out (fun k hk e => by have e' : k = b := e; have := (HR36.out.lt k hk).1; have := hb2.out; have := HS3.out; have := HS4.out; omega))
      have HD7 := Lib.hid (HD6.out.trans (hc7.out.toBelow (fun k e => by have e' : k = b := e; have := hbH.out; omega) HD6.out.size))
      have HN7 := Lib.hid hN7
      clear hN7 hg7
      go_wp2_with fail
      refine (rfollow_any t l w7 hR7.out).mono ?_
      rintro e w8 ⟨rfl, ⟨S8, q8, hR8, hS8⟩, hc8⟩
      have hN8 := Lib.hid (HN7.out.other hc8 (fun k hk hg => hgO4.out k hk hg) (fun k hk => by have e : k = g := hk; have := HgH.out; omega))
      have HR18 := Lib.hid (own_chg HR17.out hc8 (fun k hk hg => by have e : k = g := hg; have := (HR17.out.lt k hk).1; have := HGT.out; omega))
      have HR28 := Lib.hid (own_chg HR27.out hc8 (fun k hk hg => by have e : k = g := hg; have := (HR27.out.lt k hk).1; have := HGT6.out; omega))
      have HR38 := Lib.hid (own_chg HR37.out hc8 (fun k hk hg => by have e : k = g := hg; have := (HR37.out.lt k hk).1; have := HGT6.out; have := HS4.out; omega))
      have HD8 := Lib.hid (HD7.out.trans (hc8.toBelow (fun k hk => by have e : k = g := hk; have := HgH.out; omega) HD7.out.size))
      have HRN8 := Lib.hid hR8
      clear hR8 hS8 hc8
      go_wp2_with fail
      refine (lsame_any w8 hN8.out HRN8.out ((HF.out.2.2 _ HESD.out).after HD8.out)).mono ?_
      rintro e w9 ⟨rfl, hb9⟩
      have hR9 := Lib.hid (HRN8.out.after hb9)
      have HR19 := Lib.hid (own_after HR18.out hb9)
      have HR29 := Lib.hid (own_after HR28.out hb9)
      have HR39 := Lib.hid (own_after HR38.out hb9)
      have HD9 := Lib.hid (HD8.out.trans (hb9.mono HD8.out.size))
      have hn : Hid (n ≤ 1000) := by have h1 := HOK.out.conf; rw [← hx] at h1; have h2 : xs.length ≤ 1000 := h1; have h3 : xs.length = n := HLN.out; show n ≤ 1000; omega
      clear hb9
      go_wp2_with fail
      refine (enew_any w9.heap.size me A n c lo _ xs w9 (HSS.out _ HD9.out) hn.out (Nat.le_refl _)).mono ?_
      rintro e w10 ⟨b2, p2, O2, rfl, hN10, -, hb10⟩
      have hR10 := Lib.hid (hR9.out.after hb10)
      have HR1A := Lib.hid (own_after HR19.out hb10)
      have HR2A := Lib.hid (own_after HR29.out hb10)
      have HR3A := Lib.hid (own_after HR39.out hb10)
      have HD10 := Lib.hid (HD9.out.trans (hb10.mono HD9.out.size))
      have HN10 := Lib.hid hN10
      clear hN10 hb10
      go_wp2_with fail
      refine (rnew_any w10.heap.size me A n c lo _ xs w10 (HSS.out _ HD10.out) hn.out (Nat.le_refl _)).mono ?_
      rintro e w11 ⟨g2, q2, S2, rfl, hRB, -, hb11⟩
      have hR11 := Lib.hid (hR10.out.after hb11)
      have HR1B := Lib.hid (own_after HR1A.out hb11)
      have HR2B := Lib.hid (own_after HR2A.out hb11)
      have HR3B := Lib.hid (own_after HR3A.out hb11)
      have HD11 := Lib.hid (HD10.out.trans (hb11.mono HD10.out.size))
      have HN11 := Lib.hid (HN10.out.after hb11)
      have HRB := Lib.hid hRB
      clear hRB hb11
      go_wp2_with fail
      refine (lsame_any w11 HN11.out HRB.out (fun e h => by cases h)).mono ?_
      rintro e w12 ⟨rfl, hb12⟩
      have hR12 := Lib.hid (hR11.out.after hb12)
      have HR1C := Lib.hid (own_after HR1B.out hb12)
      have HR2C := Lib.hid (own_after HR2B.out hb12)
      have HR3C := Lib.hid (own_after HR3B.out hb12)
      have HD12 := Lib.hid (HD11.out.trans (hb12.mono HD11.out.size))
      clear hb12
      go_wp2_with fail
      have hfc : (y.1.follow t l).conf = x.conf := HF.out.1
      have hfm : (y.1.follow t l).me = x.me := HF.out.2.1
      have hfo : (y.1.follow t l).others = x.others := by unfold ND.others; rw [hfc, hfm]
      have hroth := rothers_any w12 hR12.out (by rw [hfc]; exact HOK.out.conf)
      rw [hfo] at hroth
      refine hroth.mono ?_
      rintro e w13 ⟨v4, rfl, hr13, hb13⟩
      obtain ⟨A1, c1, rfl, hs1⟩ := own_sl (own_after HR1C.out hb13)
      obtain ⟨A2, c2, rfl, hs2⟩ := own_sl (own_after HR2C.out hb13)
      obtain ⟨A3, c3, rfl, hs3⟩ := own_sl (own_after HR3C.out hb13)
      obtain ⟨A4, c4, rfl, hs4⟩ := own_sl hr13
      have HS1 := Lib.hid hs1
      have HS2 := Lib.hid hs2
      have HS3' := Lib.hid hs3
      have HS4' := Lib.hid hs4
      have HD13 := Lib.hid (HD12.out.trans (hb13.mono HD12.out.size))
      clear hs1 hs2 hs3 hs4 hr13 hb13 hroth hfc hfm hfo
      go_wp2_with fail
      refine (rnumbers_any A1 x.others.length c1 _ _ x.others A4 c4 _ _ w13 HS1.out HS4'.out).mono ?_
      rintro e w14 ⟨rfl, hb14⟩
      have HD14 := Lib.hid (HD13.out.trans (hb14.mono HD13.out.size))
      have HT2 := Lib.hid (HS2.out.after (by decide) hb14)
      have HT3 := Lib.hid (HS3'.out.after (by decide) hb14)
      clear hb14
      go_wp2_with fail
      refine (rall_any A2 y.2.length c2 _ _ A3 c3 _ _ y.2 w14 HT2.out HT3.out).mono ?_
      rintro e w15 ⟨rfl, hb15⟩
      have HD15 := Lib.hid (HD14.out.trans (hb15.mono HD14.out.size))
      clear hb15
      go_wp2_with fail
      go_ret
      exact ⟨rfl, HD15.out⟩
end Go.Proofs.Ytbgdepaffgeinaa
