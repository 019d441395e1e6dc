import Derived.Test.YtciolppoanfiaaaDoorZBagB
import Derived.RegionTactic
import Derived.BigRegion
import Derived.ChangeAlike
import Derived.Test.YtciolppoanfiaaaDoorXPack
import Derived.Test.YtciolppoanfiaaaDoorXUnpack
/- The bag's Spoil. -/
namespace Go.Proofs.YtciolppoanfiaaaDoor
open Go.RowKit Go.ChangeMaps
section
variable {H : Nat} {w : World} {O : Nat → Prop} {g : Nat} {fs : List (List UInt8)} {ks : List (Int × Int)} {lost : Nat}
/-- one frame opened -/
theorem BagAt.at_ (h : BagAt H w O g fs ks lost) {i : Nat} {l : List UInt8} (hi : fs[i]? = some l) :
    ∃ (ad : Addr) (c : Nat) (mb : Nat) (F : List Fr) (fr : Fr), Blk w g 96 #[.slice (some ad) fs.length c, .map (some mb), .int .i64 (lost : Int)] ∧ O mb ∧ MapIs w mb ks ∧ BagF w O (.slice (some ad) fs.length c) F ∧ F.map Fr.l = fs ∧
      F[i]? = some fr ∧ fr.l = l ∧ fs.length ≤ c ∧ c ≤ 9223372036854775807 ∧ w.cell? (ad.add i) = some fr.v := by
  obtain ⟨-, -, -, v, mb, F, hb, hmO, hm, hF, hfs⟩ := h
  obtain ⟨A, c, rfl, hs⟩ := own_sl hF.row
  have hin := (List.getElem?_eq_some_iff.1 hi).1
  have hnF : F.length = fs.length := by rw [← hfs, List.length_map]
  obtain ⟨ad, u, rfl, hu, hcell⟩ := hs.nth (k := i) (by omega)
  have hcap := hs.cap
  have hmax := hs.max
  rw [← hfs, List.getElem?_map] at hi
  rw [List.getElem?_map] at hu
  cases hx : F[i]? with
  | none => rw [hx] at hi; cases hi
  | some fr =>
    rw [hx] at hi hu
    have e1 : fr.l = l := by simpa using hi
    have e2 : fr.v = u := by simpa using hu
    rw [hnF] at hF hb hcap
    exact ⟨ad, c, mb, F, fr, hb, hmO, hm, hF, hfs, hx, e1, hcap, hmax, by rw [e2]; exact hcell⟩
def spB (b : UInt8) (j : Nat) : UInt8 := UInt8.ofNat (b.toNat ^^^ (1 <<< j))
theorem spB_val (b : UInt8) (r : Nat) (hr : r < 8) : bits .xor .u8 (b.toNat : Int) ((2 : Int) ^ r % 256) = ((spB b r).toNat : Int) := by
  have hp : 2 ^ r < 2 ^ 8 := Nat.pow_lt_pow_right (by decide) hr
  have e1 : (2 : Int) ^ r = ((2 ^ r : Nat) : Int) := (Int.natCast_pow 2 r).symm
  have hx : b.toNat ^^^ 2 ^ r < 2 ^ 8 := Nat.xor_lt_two_pow b.toNat_lt hp
  have hp' : ((2 ^ r : Nat) : Int) < ((256 : Nat) : Int) := Int.ofNat_lt.2 hp
  have e2 : ((2 ^ r : Nat) : Int) % (256 : Int) = ((2 ^ r : Nat) : Int) := Int.emod_eq_of_lt (Int.natCast_nonneg _) hp'
  rw [e1, e2, u8_xor_nat _ _ b.toNat_lt (by omega)]
  unfold spB
  rw [UInt8.toNat_ofNat', Nat.one_shiftLeft, Nat.mod_eq_of_lt hx]
theorem BagF.uniq {v : Value} {F : List Fr} (h : BagF w O v F) {i j : Nat} {x y : Fr} (hi : F[i]? = some x) (hj : F[j]? = some y) (hne : i ≠ j) : x.b ≠ y.b := by
  intro e
  have h1 : (F.map Fr.b)[i]? = some x.b := by rw [List.getElem?_map, hi]; rfl
  have h2 : (F.map Fr.b)[j]? = some x.b := by rw [List.getElem?_map, hj, e]; rfl
  obtain ⟨a1, a2⟩ := List.getElem?_eq_some_iff.1 h1
  obtain ⟨b1, b2⟩ := List.getElem?_eq_some_iff.1 h2
  have h3 := List.pairwise_iff_getElem.1 h.nd
  rcases Nat.lt_or_gt_of_ne hne with hlt | hlt
  · exact h3 i j a1 b1 hlt (by rw [a2, b2])
  · exact h3 j i b1 a1 hlt (by rw [a2, b2])
theorem frame_heap {v : Value} {F : List Fr} (h : BagF w O v F) {f : Fr} (hf : f ∈ F) : ∃ cur : Array Value, w.heap[f.b]? = some (.cells cur 5 (0, 0)) ∧ f.l.length ≤ f.c ∧ f.c ≤ maxLen ∧ cur.size = f.c * 1 ∧ cur.toList.take (f.l.length * 1) = f.l.map bv := by
  have h1 := h.fr f hf
  rcases h1.2 with ⟨e, _⟩ | ⟨b, cap, cur, hv, _, hh, h3, h4, h5, h6⟩
  · cases e
  · simp only [Fr.v] at hv
    injection hv with e1 e2 e3
    injection e1 with e1
    injection e1 with e1
    subst e1 e3
    exact ⟨cur, hh, h3, h4, h5, h6⟩
theorem BagAt.spoil (h : BagAt H w O g fs ks lost) {v : Value} {mb : Nat} {F : List Fr} (hb : Blk w g 96 #[v, .map (some mb), .int .i64 (lost : Int)]) (hmO : O mb) (hm : MapIs w mb ks) (hF : BagF w O v F) (hfs : F.map Fr.l = fs)
    {i q : Nat} {fr : Fr} (hi : F[i]? = some fr) (hq : q < fr.l.length) (b' : UInt8) :
    BagAt H (w.setCell ⟨fr.b, q, none⟩ (bv b')) O g (fs.set i (fr.l.set q b')) ks lost ∧ Chg O w (w.setCell ⟨fr.b, q, none⟩ (bv b')) := by
  have hmem := List.mem_of_getElem? hi
  obtain ⟨cur, hh, h3, h4, h5, h6⟩ := frame_heap hF hmem
  have hset := only_setCell (World.grownBy.refl w (some fr.b)) q (bv b')
  have hgb : g ≠ fr.b := by
    rintro rfl
    exact blk_not_u8 hb (by decide) _ rfl cur hh
  have hmbb : mb ≠ fr.b := by
    rintro rfl
    obtain ⟨es, c, h7, _⟩ := hm
    rw [hh] at h7
    cases h7
  have hrow : v.ownBlock ≠ some fr.b := fun e => row_not_u8 hF.row _ e cur hh
  refine ⟨⟨h.low, fun k hk => by rw [size_setCell']; exact h.top k hk, h.gO, v, mb, F.set i ⟨fr.b, fr.c, fr.l.set q b'⟩, hb.far hgb _, hmO, hm.keep (hset.block mb hm.lt (fun e => hmbb (by injection e))), ⟨?_, hF.rowO, ?_, ?_, ?_⟩, ?_⟩, Chg.grown hset (fun b e => by cases e; exact .inl (hF.frO fr hmem))⟩
  · have e1 : (F.set i ⟨fr.b, fr.c, fr.l.set q b'⟩).map Fr.v = F.map Fr.v := by
      rw [List.map_set]
      apply List.ext_getElem?
      intro j
      rw [List.getElem?_set]
      split
      · next e =>
        subst e
        rw [List.getElem?_map, hi]
        have hl := (List.getElem?_eq_some_iff.1 hi).1
        simp [hl, Fr.v]
      · rfl
    rw [List.length_set, e1]
    exact own_far hF.row hrow q _
  · intro f hf
    obtain ⟨j, hj⟩ := List.getElem?_of_mem hf
    rw [List.getElem?_set] at hj
    split at hj
    · split at hj
      · injection hj with hj
        subst hj
        have hsz : fr.l.length ≤ cur.size := by omega
        refine ⟨by simp, .inr ⟨fr.b, fr.c, cur.setIfInBounds q (bv b'), rfl, Nat.zero_le _, by simp [World.setCell, Array.getElem?_modify, hh], by simpa using h3, h4, by simpa using h5, ?_⟩⟩
        simp only [List.length_set, List.map_set]
        rw [← h6, Array.toList_setIfInBounds]
        apply List.ext_getElem?
        intro j
        simp only [List.getElem?_take, List.getElem?_set, List.length_take, Array.length_toList]
        repeat' split
        all_goals first | rfl | omega
      · cases hj
    · next hne =>
      have hfm := List.mem_of_getElem? hj
      have := hF.uniq hi hj hne
      exact own_far (hF.fr f hfm) (fun e => this (by simpa [Fr.v, Value.ownBlock] using e.symm)) q _
  · intro f hf
    obtain ⟨j, hj⟩ := List.getElem?_of_mem hf
    rw [List.getElem?_set] at hj
    split at hj
    · split at hj
      · injection hj with hj
        subst hj
        exact hF.frO fr hmem
      · cases hj
    · exact hF.frO f (List.mem_of_getElem? hj)
  · have e1 : (F.set i ⟨fr.b, fr.c, fr.l.set q b'⟩).map Fr.b = F.map Fr.b := by
      rw [List.map_set]
      apply List.ext_getElem?
      intro j
      rw [List.getElem?_set]
      split
      · next e =>
        subst e
        rw [List.getElem?_map, hi]
        have hl := (List.getElem?_eq_some_iff.1 hi).1
        simp [hl]
      · rfl
    rw [e1]
    exact hF.nd
  · rw [List.map_set, hfs]
set_option maxRecDepth 100000 in
set_option maxHeartbeats 2000000 in
theorem bspoil_ok (i bit : Nat) (l : List UInt8) (w : World) (h : BagAt H w O g fs ks lost) (hi : fs[i]? = some l) (hb : bit / 8 < l.length) (hl : l.length ≤ 100000) :
    Calls Tryd.prog 64 #[.pointer (some ⟨g, 0, none⟩), .int .i64 (i : Int), .int .i64 (bit : Int)] w fun e w' => e = .returned (.int .i64 0) ∧ BagAt H w' O g (fs.set i (l.set (bit / 8) (spB (l.getD (bit / 8) 0) (bit % 8)))) ks lost ∧ Chg O w w' := by
  have hin := (List.getElem?_eq_some_iff.1 hi).1
  have hc := bhas_any (i : Int) _ h (b := true) (decide_eq_true (by omega))
  have h0 := h
  obtain ⟨ad, c, mb, F, fr, hbk, hmO, hm, hF, hfs, hFi, hfl, hcap, hmax, hcell⟩ := h0.at_ hi
  obtain ⟨x0, x1, x2⟩ := hbk.c3
  simp only [Fr.v] at hcell
  rw [hfl] at hcell
  have hfo := hF.fr fr (List.mem_of_getElem? hFi)
  obtain ⟨b, hbv⟩ : ∃ b, l.getD (bit / 8) 0 = b := ⟨_, rfl⟩
  have hlb : l[bit / 8]? = some b := by rw [← hbv, List.getD_eq_getElem?_getD, List.getElem?_eq_getElem hb]; rfl
  have hbyte : w.cell? ⟨fr.b, bit / 8, none⟩ = some (.int .u8 (b.toNat : Int)) := by
    have := hfo.cells (g := fr.b) rfl (bit / 8) (bv b) (by rw [hfl, List.getElem?_map, hlb]; rfl)
    rwa [addr0] at this
  have hfz : w.frozen? ⟨fr.b, bit / 8, none⟩ = false := by
    obtain ⟨cur, hh, -⟩ := frame_heap hF (List.mem_of_getElem? hFi)
    simp [World.frozen?, hh]
  have FIN : Hid (BagAt H (w.setCell ⟨fr.b, bit / 8, none⟩ (bv (spB b (bit % 8)))) O g (fs.set i (l.set (bit / 8) (spB b (bit % 8)))) ks lost ∧ Chg O w (w.setCell ⟨fr.b, bit / 8, none⟩ (bv (spB b (bit % 8))))) := by
    have := h0.spoil hbk hmO hm hF hfs hFi (q := bit / 8) (by rw [hfl]; exact hb) (spB b (bit % 8))
    rwa [hfl] at this
  have hxv := spB_val b (bit % 8) (Nat.mod_lt _ (by decide))
  have HC := Lib.hid hc
  have HBV := Lib.hid hbv
  have hq : (bit : Int) / 8 = ((bit / 8 : Nat) : Int) := by omega
  have hr : (bit : Int) % 8 = ((bit % 8 : Nat) : Int) := by omega
  have hr8 : bit % 8 < 8 := by omega
  have k1 : decide ((bit : Int) < 0) = false := decide_eq_false (by omega)
  obtain ⟨ln, hln⟩ : ∃ n, l.length = n := ⟨_, rfl⟩
  rw [hln] at hb hcell hl
  have k2 : decide (ln ≤ bit / 8) = false := decide_eq_false (by omega)
  have hbl : bit < 1000000 := by omega
  generalize bit / 8 = q at *
  generalize bit % 8 = r at *
  clear hbv hc hm hF hfs hFi hfo h0 hlb hln hfl hi h hbk
  generalize fs.length = n at x0 hcap hin ⊢
  go_enter Tryd.func64, Tryd.ntmps64
  go_wp2_with fail
  refine HC.out.mono ?_
  rintro e _ ⟨rfl, rfl⟩
  go_wp2_with fail
  clear HC
  go_big_region
  clear hxv hbyte hcell x0 x1 x2
  go_wp2
  go_ret
  rw [HBV.out]
  exact ⟨rfl, FIN.out.1.drewN 1, FIN.out.2.same (Chg.below (below_drewN (Below.refl _ _) 1))⟩
end
end Go.Proofs.YtciolppoanfiaaaDoor

/- What is packed is unpacked: plain. -/
namespace Go.Proofs.YtciolppoanfiaaaDoor

theorem pframe_take2 (p r : List UInt8) : (frameOf p ++ r).take 2 = num p.length 2 := by
  unfold frameOf
  rw [List.append_assoc, List.take_append_of_le_length (by simp [num_len])]
  exact List.take_of_length_le (by simp [num_len])
theorem pframe_drop2 (p r : List UInt8) : (frameOf p ++ r).drop 2 = num (Crc.sum (num p.length 2 ++ p)) 4 ++ (p ++ r) := by
  unfold frameOf
  rw [List.append_assoc, List.drop_append_of_le_length (by simp [num_len]), List.drop_of_length_le (by simp [num_len])]
  simp
theorem pframe_drop6 (p r : List UInt8) : (frameOf p ++ r).drop 6 = p ++ r := by
  have : (frameOf p ++ r).drop 6 = ((frameOf p ++ r).drop 2).drop 4 := by rw [List.drop_drop]
  rw [this, pframe_drop2, List.drop_append_of_le_length (by simp [num_len]), List.drop_of_length_le (by simp [num_len])]
  simp
theorem pframe_le (p r : List UInt8) (h : p.length ≤ 1000) : le ((frameOf p ++ r).take 2) = p.length := by
  rw [pframe_take2]
  exact le_num _ _ (by have : (256 : Nat) ^ 2 = 65536 := by decide
                       omega)
/-- What is framed is taken. -/
theorem ptake_frame (p r : List UInt8) (h : p.length ≤ 1000) : takeE (frameOf p ++ r) = 0 ∧ takeP (frameOf p ++ r) = p ∧ takeR (frameOf p ++ r) = r := by
  have h1 := pframe_le p r h
  have h2 : (frameOf p ++ r).length = p.length + 6 + r.length := by rw [List.length_append, frameOf_len]
  have h3 : le (((frameOf p ++ r).drop 2).take 4) = Crc.sum (num p.length 2 ++ p) := by
    rw [pframe_drop2, List.take_append_of_le_length (by simp [num_len]), List.take_of_length_le (by simp [num_len])]
    exact le_num _ _ (by have := Crc.sum_lt (num p.length 2 ++ p)
                         have : (256 : Nat) ^ 4 = 4294967296 := by decide
                         omega)
  refine ⟨?_, ?_, ?_⟩
  · unfold takeE
    rw [h1, h3, pframe_take2, pframe_drop6, List.take_left' rfl, if_neg (by omega), if_neg (by omega), if_neg (by omega), if_neg (by simp)]
  · unfold takeP
    rw [h1, pframe_drop6, List.take_left' rfl]
  · unfold takeR
    rw [h1, ← List.drop_drop, pframe_drop6, List.drop_left' rfl]
/-- what is written has no fault -/
theorem written_code {p : PMsg} (h : p.check = 0) (hf : p.fits) : decC p.enc = 0 := by
  have hr := written_read h hf
  obtain ⟨⟨k1, k2⟩, ⟨f1, f2⟩, ⟨t1, t2⟩, hd, hn, he⟩ := check_of h
  obtain ⟨h8, h9⟩ := hf
  obtain ⟨k, f, t, te, ix, pr, co, ok, d, es⟩ := p
  simp only at k1 k2 f1 f2 t1 t2 hd hn he h8 h9
  obtain ⟨kn, rfl⟩ : ∃ n : Nat, k = (n : Int) := ⟨k.toNat, by omega⟩
  obtain ⟨fn, rfl⟩ : ∃ n : Nat, f = (n : Int) := ⟨f.toNat, by omega⟩
  obtain ⟨tn, rfl⟩ : ∃ n : Nat, t = (n : Int) := ⟨t.toNat, by omega⟩
  have hb := ok.toNat_le
  obtain ⟨_, e2, e3⟩ := raw_app (a0 := kn) (a1 := fn) (a2 := tn) (fl := ok.toNat) (b := []) (es := es) (d := d) ⟨by omega, by omega, by omega, by omega, by omega⟩ h8 (by omega) (fun e hm => ⟨h9 e hm, (he e hm).2.1, by have := (he e hm).2.2; omega, by have := (he e hm).1; omega⟩)
  rw [rawB_nil] at e2 e3
  have hE : PMsg.enc ⟨(kn : Int), (fn : Int), (tn : Int), te, ix, pr, co, ok, d, es⟩ = nums [kn, fn, tn, ok.toNat] 1 ++ (nums [te, ix, pr, co] 8 ++ (bytesF d ++ (num es.length 1 ++ encKs es))) := by
    unfold PMsg.enc
    simp only [Int.toNat_natCast]
  unfold decC
  rw [hr]
  rw [hE, e2, e3, if_neg (by simp [endE]), if_neg (by omega)]
  exact h
/-- what is packed comes again -/
theorem un_pk {p : PMsg} (h : p.pkE = 0) (hf : p.fits) : unE p.pkL = 0 ∧ unM p.pkL = p ∧ p.pkL.length ≤ 2000 := by
  have hc : p.check = 0 := by
    refine Decidable.byContradiction fun hc => ?_
    have := (pk_bad hc).1
    omega
  have hl : p.enc.length ≤ 1000 := by
    refine Decidable.byContradiction fun hl => ?_
    have := (pk_long hc (by omega)).1
    omega
  rw [(pk_ok hc hl).2]
  obtain ⟨h1, h2, h3⟩ := ptake_frame p.enc [] hl
  rw [List.append_nil] at h1 h2 h3
  have e1 : tP (frameOf p.enc) = p.enc := by unfold tP; rw [if_pos h1, h2]
  have hcode := written_code hc hf
  refine ⟨?_, ?_, ?_⟩
  · rw [unE_go h1, e1]; exact hcode
  · rw [unM_go h1, e1]
    unfold decM
    rw [if_pos hcode, written_read hc hf]
  · rw [frameOf_len]; omega
/-- a message of two nodes -/
def pm (x y : Int) : PMsg := ⟨1, x, y, 0, 0, 0, 0, false, [], []⟩
def mm (x y : Int) : Msg := ⟨1, x, y, 0, 0, 0, 0, false, none, 0, [], none, 0, []⟩
theorem mm_plain (x y : Int) : (mm x y).plain = pm x y := rfl
theorem isMsg_mm (w : World) (x y : Int) : IsMsg w (mm x y) := ⟨⟨0, 0, Sl.nil_ _ _ _ _⟩, ⟨0, 0, Sl.nil_ _ _ _ _⟩, fun e he => by cases he⟩
theorem pm_fits (x y : Int) : (pm x y).fits := ⟨by unfold pm; simp, fun e he => by cases he⟩
theorem pm_pk {x y : Int} (hx : 0 ≤ x ∧ x ≤ 15) (hy : 0 ≤ y ∧ y ≤ 15) : (pm x y).pkE = 0 := by
  have hc : (pm x y).check = 0 := by
    unfold PMsg.check checkK pm
    simp only
    rw [if_neg (by omega), if_neg (by omega), if_neg (by simp), if_neg (by simp)]
  have hl : (pm x y).enc.length ≤ 1000 := by
    unfold PMsg.enc pm
    simp only [List.length_append, nums_len, bytesF_len, num_len, List.length_cons, List.length_nil, encKs, List.map_nil, List.flatten_nil]
    omega
  exact (pk_ok hc hl).1
end Go.Proofs.YtciolppoanfiaaaDoor

/- The law's message of two nodes. -/
namespace Go.Proofs.YtciolppoanfiaaaDoor
open Go.RowKit
set_option maxRecDepth 100000 in
theorem msg_any (x y : Int) (w : World) : Calls Tryd.prog 36 #[.int .i64 x, .int .i64 y] w fun e w' => e = .returned (mm x y).v ∧ Below w.heap.size w w' := by
  have D0 := (Below.refl w.heap.size w).alloc (Nat.le_refl _) (.cells #[.int .i64 1, .int .i64 x, .int .i64 y, .int .u64 0, .int .u64 0, .int .u64 0, .int .u64 0, .bool false, .slice none 0 0, .slice none 0 0] 41)
  go_enter Tryd.func36, Tryd.ntmps36
  go_wp2
  exact bodyPost_ret (v := (mm x y).v) (by simp [results, Tryd.results36, go_sem, Msg.v, mcells, mm]) rfl ⟨rfl, D0⟩
end Go.Proofs.YtciolppoanfiaaaDoor
