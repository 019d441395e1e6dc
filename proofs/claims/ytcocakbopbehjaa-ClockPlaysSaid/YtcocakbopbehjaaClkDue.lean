/- Due. -/
import Derived.Test.YtcocakbopbehjaaClkSort
import Derived.Test.YtcocakbopbehjaaClkDelF
namespace Go.Proofs.Ytcocakbopbehjaa
open Go.RowKit
theorem int_info : (Try.prog.info? 3).map (fun i => (i.zero, i.size, i.bytes)) = some (some (.int .i64 0), 1, 8) := by kernel_rfl
def ids (l : List Tm) : List Value := l.map fun t => .int .i64 t.1
theorem filter_snoc {now : Nat} {ts : List Tm} {k : Nat} {t : Tm} (ht : ts[k]? = some t) : (ts.take (k + 1)).filter (lateb now) = (ts.take k).filter (lateb now) ++ (if lateb now t then [t] else []) := by
  obtain ⟨h1, h2⟩ := List.getElem?_eq_some_iff.1 ht
  rw [List.take_succ_eq_append_getElem h1, List.filter_append, h2]
  rcases h : lateb now t with _ | _ <;> simp [h]
theorem ids_snoc {l : List Tm} {k : Nat} {t : Tm} (ht : l[k]? = some t) : ids (l.take (k + 1)) = ids (l.take k) ++ [.int .i64 t.1] := by
  obtain ⟨h1, h2⟩ := List.getElem?_eq_some_iff.1 ht
  unfold ids
  rw [List.take_succ_eq_append_getElem h1, List.map_append, h2]
  rfl
section
variable {H : Nat} {O : Nat → Prop} {g : Nat} {ns : List PN}
set_option maxRecDepth 100000 in
theorem cdue_no (i : Int) (w : World) (h : ClkAt H w O g ns) (hi : ¬ (0 ≤ i ∧ i < (ns.length : Int))) :
    Calls Try.prog 13 #[.pointer (some ⟨g, 0, none⟩), .int .i64 i] w fun e w' => e = .returned (.slice none 0 0) ∧ w = w' := by
  have hC := cnode_no i w h hi
  clear h hi
  go_enter Try.func13, Try.ntmps13
  go_wp2_with fail
  refine hC.mono ?_
  rintro e _ ⟨rfl, rfl⟩
  go_wp2
  go_ret
  exact ⟨rfl, rfl⟩
set_option maxRecDepth 100000 in
theorem cdue_paused (i : Nat) (w : World) (h : ClkAt H w O g ns) {p : PN} (hi : ns[i]? = some p) (hp : p.paused = true) :
    Calls Try.prog 13 #[.pointer (some ⟨g, 0, none⟩), .int .i64 (i : Int)] w fun e w' => e = .returned (.slice none 0 0) ∧ w = w' := by
  obtain ⟨⟨xb, xv, xp⟩, hG⟩ := h.got hi
  obtain ⟨hC, rfl, hN, -⟩ := hG
  obtain ⟨x0, x1, x2⟩ := hN.blk.c3
  obtain ⟨now, ts, pz⟩ := xp
  simp only at hC x0 x1 x2 hp
  subst hp
  clear h hi hN
  go_enter Try.func13, Try.ntmps13
  go_wp2_with fail
  refine hC.mono ?_
  rintro e _ ⟨rfl, rfl⟩
  go_wp2
  go_ret
  exact ⟨rfl, rfl⟩
set_option maxRecDepth 100000 in
set_option maxHeartbeats 3200000 in
theorem cdue_ok (i : Nat) (w : World) (h : ClkAt H w O g ns) {p : PN} (hi : ns[i]? = some p) (hp : p.paused = false) :
    Calls Try.prog 13 #[.pointer (some ⟨g, 0, none⟩), .int .i64 (i : Int)] w fun e w' => ∃ v O', e = .returned v ∧ w'.ownsRow w.heap.size 3 1 v (lates p).length (ids (tsort (lates p))) ∧ ClkAt H w' O' g (ns.set i ⟨p.now, rests p, p.paused⟩) ∧ Sub O w O' ∧ Chg O w w' ∧ ∀ b, v.ownBlock = some b → ¬ O' b := by
  obtain ⟨⟨xb, xv, xp⟩, hG⟩ := h.got hi
  obtain ⟨hC, rfl, hN, ht⟩ := hG
  obtain ⟨x0, x1, x2⟩ := hN.blk.c3
  obtain ⟨A, c, hv, hs⟩ := own_sl hN.row
  have hok := hN.ok
  obtain ⟨now, ts, pz⟩ := xp
  simp only at hC x0 x1 x2 hp hv hs
  subst hp hv
  obtain ⟨i0, hi0, hz0, hz1, hz2⟩ := info_parts tm_info
  obtain ⟨j0, hj0, hy0, hy1, hy2⟩ := info_parts int_info
  have HT := Lib.hid ht
  have HN := Lib.hid hN
  have hlen : ts.length ≤ 40 := hok.len
  obtain ⟨n, hn⟩ : ∃ n, ts.length = n := ⟨_, rfl⟩
  rw [hn] at x1 hs hlen
  have HS := Lib.hid hs
  have HNL := Lib.hid hn
  have hlt := hN.blk.lt
  simp only at hlt
  have hxx : xb ≠ w.heap.size := by omega
  clear h hi hN ht hok hn hs hxx
  go_enter Try.func13, Try.ntmps13
  go_wp2_with fail
  refine hC.mono ?_
  rintro e _ ⟨rfl, rfl⟩
  go_wp2
  go_loopw [7, 9, 31] (fun v _ i wr => ∃ k : Nat, k ≤ n ∧ i = .int .i64 k ∧ wr.ownsRow w.heap.size 62 2 v ((ts.take k).filter (lateb now)).length (tcells ((ts.take k).filter (lateb now))) ∧ Below w.heap.size w wr) (fun _ _ i _ => n - (intOf i).toNat)
  case atStart => exact ⟨0, Nat.zero_le _, rfl, World.ownsRow_nil _ _ _ _, Below.refl _ _⟩
  case round =>
    obtain ⟨k, hk, rfl, hrow, hbr⟩ := hrel
    obtain ⟨D, d, rfl, hds⟩ := own_sl hrow
    have hdl : ((ts.take k).filter (lateb now)).length ≤ 40 := Nat.le_trans (List.length_filter_le _ _) (by rw [List.length_take]; omega)
    by_cases hlt : k < n
    · obtain ⟨ad, t, rfl, ht, z0, z1⟩ := (HS.out.after (by decide) hbr).tm hlt
      have HSN := Lib.hid (filter_snoc (now := now) ht)
      have HB := Lib.hid (HN.out.blk.after hbr)
      obtain ⟨l, hl⟩ : ∃ l, (ts.take k).filter (lateb now) = l := ⟨_, rfl⟩
      simp only [hl] at hrow hds hdl HSN ⊢
      obtain ⟨m, hm⟩ : ∃ m, l.length = m := ⟨_, rfl⟩
      simp only [hm] at hrow hds hdl ⊢
      have HM := Lib.hid hm
      have HROW := Lib.hid hrow
      have HBR := Lib.hid hbr
      have hne : ad.block ≠ wr.heap.size := by
        have := (HS.out.after (by decide) hbr).lt (by decide) (by omega) rfl
        omega
      clear hl hm hrow hds hbr ht
      obtain ⟨ti, ta⟩ := t
      simp only at z0 z1
      have hC : ∀ b : Bool, lateb now (ti, ta) = b → _ := fun b hb => late_any xb now (.slice (some ad) n c) false (ti, ta) (wr.alloc (.cells #[.int .i64 ti, .int .u64 (ta : Int)] 62)) (by have := HB.out; simp only [HNL.out] at this; exact this.alloc _) hb
      have HC := Lib.hid hC
      clear hC
      cases hq : lateb now (ti, ta) with
      | true =>
        go_wp2_with fail
        refine (HC.out _ hq).mono ?_
        rintro e w3 ⟨rfl, hb3⟩
        have hown3 := own_after (own_alloc' HROW.out (.cells #[.int .i64 ti, .int .u64 (ta : Int)] 62)) hb3
        have D3 : Below w.heap.size w w3 := (HBR.out.alloc HBR.out.size _).trans (hb3.mono (Nat.le_trans HBR.out.size (by simp)))
        obtain ⟨t0, t1⟩ := ((Blk.new wr 62 #[.int .i64 ti, .int .u64 (ta : Int)]).after hb3).c2
        have HO3 := Lib.hid hown3
        have HD3 := Lib.hid D3
        clear hown3 D3 hb3 z0 z1
        go_wp2_with (at_builtin; refine wpList_app _ rfl (.tmp 38) (.tmp 40) 56 rfl w.heap.size 62 i0 _ 2 16 Try.underlying56 hi0 hz0 hz1 hz2 rfl (by omega) (.slice D m d) m (tcells l) rfl (by exact own_alloc' HO3.out _) w3.heap.size (w3.heap.size + 1) (some ⟨w3.heap.size, 0, none⟩) 1 1 _ rfl (by exact sl_new w3 2 1 1 _ _ rfl (Nat.le_refl _) (by decide)) (tm_two _ _) (by simp only [maxLen]; omega) (by omega) (by have := HD3.out.size; simp only [alloc_size]; omega) ?_; intro v4 w4 o4 g4 a4)
        go_roundw
        case rel =>
          refine ⟨k + 1, by omega, by first | rfl | go_num, ?_, ?_⟩
          · have e1 := HSN.out
            rw [hq, if_pos rfl] at e1
            rw [e1, List.length_append, HM.out, tcells_append]
            exact o4
          · refine (HD3.out.alloc HD3.out.size _).grown g4 (by have := HD3.out.size; simp only [alloc_size]; omega) fun b hb => (HO3.out.lt b hb).1
        case measure => simp [intOf]; omega
      | false =>
        go_wp2_with fail
        refine (HC.out _ hq).mono ?_
        rintro e w3 ⟨rfl, hb3⟩
        have hown3 := own_after (own_alloc' HROW.out (.cells #[.int .i64 ti, .int .u64 (ta : Int)] 62)) hb3
        have D3 : Below w.heap.size w w3 := (HBR.out.alloc HBR.out.size _).trans (hb3.mono (Nat.le_trans HBR.out.size (by simp)))
        have HO3 := Lib.hid hown3
        have HD3 := Lib.hid D3
        clear hown3 D3 hb3 z0 z1
        go_wp2
        go_roundw
        case rel =>
          refine ⟨k + 1, by omega, by first | rfl | go_num, ?_, HD3.out⟩
          have e1 := HSN.out
          rw [hq, if_neg (by decide), List.append_nil] at e1
          rw [e1, HM.out]
          exact HO3.out
        case measure => simp [intOf]; omega
    · obtain rfl : k = n := by omega
      have htk : ts.take k = ts := List.take_of_length_le (by rw [HNL.out]; exact Nat.le_refl _)
      have hL : ts.filter (lateb now) = lates ⟨now, ts, false⟩ := rfl
      rw [htk] at hrow hds hdl ⊢
      have hD := cdelf_any (.slice A k c) k xb now (.slice A ts.length c) false ts wr (by have := own_after HN.out.row hbr; simp only [HNL.out] at this; exact this) (by omega) (HN.out.blk.after hbr)
      have HD := Lib.hid hD
      have HN1 := HN.out.keep (hbr.block _ HN.out.blk.lt) fun b hb => hbr.block b (HN.out.row.lt b hb).2
      have HNR := Lib.hid HN1
      have HBR := Lib.hid hbr
      obtain ⟨L, hLL⟩ : ∃ L, ts.filter (lateb now) = L := ⟨_, rfl⟩
      simp only [hLL] at hrow hds hdl ⊢
      obtain ⟨m, hm⟩ : ∃ m, L.length = m := ⟨_, rfl⟩
      simp only [hm] at hrow hds hdl ⊢
      have HLL := Lib.hid hLL
      have HM := Lib.hid hm
      have HROW := Lib.hid hrow
      obtain ⟨y0, y1, y2⟩ := HN1.blk.c3
      simp only [HNL.out] at y0 y1 y2
      have hnv : (Value.slice A k c).ownBlock ≠ some xb := by have := row_ne HN.out.row HN.out.blk (by decide); simp only [HNL.out] at this; exact this
      have HNV := Lib.hid hnv
      have HRO := Lib.hid fun b hb => (HN.out.row.lt b hb).2
      clear hD HN1 hbr hL htk hLL hm hrow hds hnv HS
      go_wp2_with fail
      refine HD.out.mono ?_
      rintro e w2 ⟨v2, rfl, hown2, hg2, hob2⟩
      obtain ⟨A2, c2, hv2, -⟩ := own_sl hown2
      subst hv2
      have hb2 := HNR.out.blk.grown hg2 fun e => HNV.out e.symm
      simp only [HNL.out] at hb2
      obtain ⟨q0, q1, q2⟩ := hb2.c3
      have f1 := hb2.frozen 1
      obtain ⟨r, hr⟩ : ∃ r, (ts.filter (keepb now)).length = r := ⟨_, rfl⟩
      simp only [hr] at hown2 hob2 ⊢
      have HR := Lib.hid hr
      have HOWN2 := Lib.hid hown2
      have HG2 := Lib.hid hg2
      have HOB2 := Lib.hid hob2
      have HB2 := Lib.hid hb2
      have hg3 := only_setCell (World.grownBy.refl w2 (some xb)) 1 (.slice A2 r c2)
      have hrow3 : (w2.setCell ⟨xb, 1, none⟩ (.slice A2 r c2)).ownsRow w.heap.size 62 2 (.slice D m d) m (tcells L) := by
        refine own_same HROW.out fun b hb => ?_
        obtain ⟨h1, h2⟩ := HROW.out.lt b hb
        refine (hg3.block b (Nat.lt_of_lt_of_le h2 HG2.out.size) ?_).trans (HG2.out.block b h2 ?_)
        · intro e; injection e with e; omega
        · intro e
          have := HRO.out b (by simp only [HNL.out]; exact e.symm)
          omega
      have hS := csort_any w.heap.size m d D L _ hrow3 (by omega)
      have HSO := Lib.hid hS
      have HG3 := Lib.hid hg3
      clear hr hown2 hg2 hob2 hb2 hg3 hrow3 hS y0 y1 y2 HD
      go_wp2_with fail
      refine HSO.out.mono ?_
      rintro e w4 ⟨rfl, hown4, hg4⟩
      have HO4 := Lib.hid hown4
      have HG4 := Lib.hid hg4
      clear hown4 hg4 HSO q0 q1 q2 f1
      have hK4 : ∃ O', ClkAt H w4 O' g (ns.set i ⟨now, ts.filter (keepb now), false⟩) ∧ Sub O w O' ∧ Chg O w w4 := by
        have hd : ∀ b, (Value.slice D m d).ownBlock = some b → w.heap.size ≤ b := fun b hb => (HROW.out.lt b hb).1
        have hrb : (Value.slice A2 r c2).ownBlock ≠ some xb := fun e => HNV.out (HOB2.out ▸ e)
        have c1 : Chg (fun k => k = xb ∨ (Value.slice A ts.length c).ownBlock = some k) w w2 :=
          (Chg.below HBR.out).same (Chg.grown HG2.out fun b hb => .inl (.inr (by simp only [HNL.out]; exact hb)))
        have c3 : Chg (fun k => k = xb ∨ (Value.slice A ts.length c).ownBlock = some k) w (w2.setCell ⟨xb, 1, none⟩ (.slice A2 r c2)) := Chg.put c1 (.inl rfl) 1 _
        have c4 : Chg (fun k => k = xb ∨ (Value.slice A ts.length c).ownBlock = some k) w w4 :=
          ⟨HG4.out.os.trans c3.os, HG4.out.tape.trans c3.tape, HG4.out.output.trans c3.output, Nat.le_trans c3.size HG4.out.size, fun k hk hn => (HG4.out.block k (Nat.lt_of_lt_of_le hk c3.size) (fun e => by have := hd k e.symm; omega)).trans (c3.block k hk hn)⟩
        refine HT.out w4 (.slice A2 r c2) ⟨now, ts.filter (keepb now), false⟩ c4 ⟨?_, ?_, ⟨HN.out.ok.now, ?_, fun t ht => HN.out.ok.ts t (List.mem_filter.1 ht).1⟩⟩ (.inl (by simp only [HNL.out]; exact HOB2.out))
        · have h1 : Blk (w2.setCell ⟨xb, 1, none⟩ (.slice A2 r c2)) xb 58 #[.int .u64 (now : Int), .slice A2 r c2, .bool false] := by have := HB2.out.set_ 1 (.slice A2 r c2); simpa using this
          exact h1.grown HG4.out fun e => by have := hd xb e.symm; omega
        · show World.ownsRow _ _ _ _ _ (ts.filter (keepb now)).length _
          rw [HR.out]
          refine own_same (own_far HOWN2.out hrb 1 (.slice A2 r c2)) fun b hb => HG4.out.block b ?_ ?_
          · rw [size_setCell']; exact (HOWN2.out.lt b hb).2
          · intro e
            have h1 := hd b e.symm
            have h2 := HRO.out b (by simp only [HNL.out]; rw [← HOB2.out]; exact hb)
            omega
        · exact Nat.le_trans (List.length_filter_le _ _) HN.out.ok.len
      have hsz4 : w.heap.size ≤ w4.heap.size := by
        have h1 := HG4.out.size
        rw [size_setCell'] at h1
        exact Nat.le_trans HBR.out.size (Nat.le_trans HG2.out.size h1)
      have HK4 := Lib.hid hK4
      obtain ⟨T, hTT⟩ : ∃ T, tsort L = T := ⟨_, rfl⟩
      have hTl : T.length = m := by rw [← hTT, tsort_len]; exact HM.out
      rw [hTT] at HO4
      have HTT := Lib.hid hTT
      have HTL := Lib.hid hTl
      clear hK4 hTT hTl HG4 HG3 HB2 HOB2 HG2 HOWN2 HR HRO HNV HROW HBR HNR HT HN
      go_wp2
      go_loopw [10, 12, 56] (fun v _ i wr => ∃ k : Nat, k ≤ m ∧ i = .int .i64 k ∧ wr.ownsRow w4.heap.size 3 1 v k (ids (T.take k)) ∧ Below w4.heap.size w4 wr) (fun _ _ i _ => m - (intOf i).toNat)
      case atStart => exact ⟨0, Nat.zero_le _, rfl, World.ownsRow_nil _ _ _ _, Below.refl _ _⟩
      case round =>
        obtain ⟨k, hk, rfl, hrow, hbr⟩ := hrel
        obtain ⟨E, e0, rfl, hes⟩ := own_sl hrow
        have HROW := Lib.hid hrow
        have HBR := Lib.hid hbr
        by_cases hlt : k < m
        · have hds := own_sl (own_after HO4.out hbr)
          obtain ⟨D', d', hv', hs'⟩ := hds
          injection hv' with e1 e2 e3
          subst e1 e3
          obtain ⟨ad, t, rfl, ht, z0, z1⟩ := hs'.tm hlt
          have hne : ad.block ≠ wr.heap.size := by
            have := hs'.lt (by decide) (by omega) rfl
            omega
          have HSN := Lib.hid (ids_snoc ht)
          clear hs' ht hrow hbr hes
          obtain ⟨ti, ta⟩ := t
          simp only at z0 z1
          go_wp2_with (at_builtin; refine wpList_app _ rfl (.tmp 60) (.tmp 63) 33 rfl w4.heap.size 3 j0 _ 1 8 Try.underlying33 hj0 hy0 hy1 hy2 rfl (by omega) (.slice E k e0) k (ids (T.take k)) rfl (by exact own_alloc' (own_alloc' HROW.out _) _) (wr.heap.size + 1) (wr.heap.size + 1 + 1) (some ⟨wr.heap.size + 1, 0, none⟩) 1 1 [.int .i64 ti] rfl (by have := sl_one (wr.alloc (.cells #[.int .i64 ti, .int .u64 (ta : Int)] 62)) (.int .i64 ti) 3; rw [alloc_size] at this; exact this) (by intro u hu; rw [List.mem_singleton.1 hu]; rfl) (by simp only [maxLen]; omega) (by omega) (by have := HBR.out.size; simp only [alloc_size]; omega) ?_; intro v5 w5 o5 g5 a5)
          go_roundw
          case rel =>
            refine ⟨k + 1, by omega, by first | rfl | go_num, ?_, ?_⟩
            · rw [HSN.out]; exact o5
            · refine ((HBR.out.alloc HBR.out.size _).alloc (by have := HBR.out.size; simp only [alloc_size]; omega) _).grown g5 (by have := HBR.out.size; simp only [alloc_size]; omega) fun b hb => (HROW.out.lt b hb).1
          case measure => simp [intOf]; omega
        · obtain rfl : k = m := by omega
          clear hrow hbr hes
          go_wp2
          go_ret
          obtain ⟨O', q1, q2, q3⟩ := HK4.out
          have htk : T.take k = T := List.take_of_length_le (by rw [HTL.out]; exact Nat.le_refl _)
          have hrow := HROW.out
          rw [htk] at hrow
          have eL : lates ⟨now, ts, false⟩ = L := HLL.out
          refine ⟨_, O', rfl, ?_, q1.after HBR.out, q2, ⟨HBR.out.os.trans q3.os, HBR.out.tape.trans q3.tape, HBR.out.output.trans q3.output, Nat.le_trans q3.size HBR.out.size, fun b hb hn => (HBR.out.block b (Nat.lt_of_lt_of_le hb q3.size)).trans (q3.block b hb hn)⟩, ?_⟩
          · rw [eL, HM.out, HTT.out]
            exact own_wide hrow hsz4
          · intro b hb hO
            have h1 := (hrow.lt b hb).1
            have h2 := q1.top b hO
            omega
end
end Go.Proofs.Ytcocakbopbehjaa
