/- slices.DeleteFunc at timers, those that are late. -/
import Derived.Test.YtcocakbopbehjaaClkDel
namespace Go.Proofs.Ytcocakbopbehjaa
open Go.RowKit
def keepb (now : Nat) (t : Tm) : Bool := !lateb now t
/-- how far the kept ones are moved -/
structure KI (now : Nat) (ts us : List Tm) (i j : Nat) : Prop where
  len : us.length = ts.length
  lo : us.take i = (ts.take j).filter (keepb now)
  hi : us.drop j = ts.drop j
  ij : i < j
  jn : j ≤ ts.length
theorem KI.start {now : Nat} {ts : List Tm} {k : Nat} {t : Tm} (hk : ts[k]? = some t) (hl : lateb now t = true) (hall : ∀ j t, j < k → ts[j]? = some t → lateb now t = false) : KI now ts ts k (k + 1) := by
  obtain ⟨h1, h2⟩ := List.getElem?_eq_some_iff.1 hk
  refine ⟨rfl, ?_, rfl, by omega, by omega⟩
  rw [List.take_succ_eq_append_getElem h1, List.filter_append, h2]
  have e1 : (ts.take k).filter (keepb now) = ts.take k := List.filter_eq_self.2 fun u hu => by
    obtain ⟨j, hj⟩ := List.getElem?_of_mem hu
    rw [List.getElem?_take] at hj
    split at hj
    · next hlt => unfold keepb; rw [hall j u hlt hj]; rfl
    · cases hj
  rw [e1]
  simp [keepb, hl]
theorem KI.skip {now : Nat} {ts us : List Tm} {i j : Nat} {t : Tm} (h : KI now ts us i j) (ht : ts[j]? = some t) (hl : lateb now t = true) : KI now ts us i (j + 1) := by
  obtain ⟨h1, h2⟩ := List.getElem?_eq_some_iff.1 ht
  refine ⟨h.len, ?_, ?_, by have := h.ij; omega, by omega⟩
  · rw [List.take_succ_eq_append_getElem h1, List.filter_append, h2, h.lo]
    simp [keepb, hl]
  · have := congrArg (List.drop 1) h.hi
    simpa [List.drop_drop] using this
theorem KI.keep {now : Nat} {ts us : List Tm} {i j : Nat} {t : Tm} (h : KI now ts us i j) (ht : ts[j]? = some t) (hl : lateb now t = false) : KI now ts (us.set i t) (i + 1) (j + 1) := by
  obtain ⟨h1, h2⟩ := List.getElem?_eq_some_iff.1 ht
  have hij := h.ij
  have hiu : i < us.length := by rw [h.len]; omega
  refine ⟨by rw [List.length_set]; exact h.len, ?_, ?_, by omega, by omega⟩
  · rw [List.take_succ_eq_append_getElem h1, List.filter_append, h2, ← h.lo, List.take_succ_eq_append_getElem (by rw [List.length_set]; exact hiu), List.take_set_of_le (Nat.le_refl _), List.getElem_set_self]
    simp [keepb, hl]
  · rw [List.drop_set_of_lt (by omega)]
    have := congrArg (List.drop 1) h.hi
    simpa [List.drop_drop] using this
theorem KI.at {now : Nat} {ts us : List Tm} {i j : Nat} (h : KI now ts us i j) : us[j]? = ts[j]? := by
  have := congrArg (·[0]?) h.hi
  simpa using this
theorem KI.done {now : Nat} {ts us : List Tm} {i : Nat} (h : KI now ts us i ts.length) : us.take i = ts.filter (keepb now) ∧ i = (ts.filter (keepb now)).length := by
  have h1 := h.lo
  rw [List.take_length] at h1
  refine ⟨h1, ?_⟩
  rw [← h1, List.length_take, h.len]
  have := h.ij
  omega
set_option maxHeartbeats 1600000 in
set_option maxRecDepth 1000000 in
theorem cdelf_any (v : Value) (n nb now : Nat) (nv : Value) (pz : Bool) (ts : List Tm) (w : World) (hown : w.ownsRow 0 62 2 v n (tcells ts)) (hn : n ≤ 1000) (hB : Blk w nb 58 #[.int .u64 (now : Int), nv, .bool pz]) :
    Calls Try.prog 28 #[v, .func (.func 27) #[.pointer (some ⟨nb, 0, none⟩)] #[]] w fun e w' => ∃ v', e = .returned v' ∧ w'.ownsRow 0 62 2 v' (ts.filter (keepb now)).length (tcells (ts.filter (keepb now))) ∧ w.grownBy w' v.ownBlock ∧ v'.ownBlock = v.ownBlock := by
  have htl : ts.length = n := by have := hown.1; rw [tcells_len] at this; omega
  obtain ⟨A, c, rfl, hs⟩ := own_sl hown
  have hI := idxLate_any A n c 0 w.heap.size ts (lateb now) nb w hs (by omega) fun W t hW => late_any nb now nv pz t W (hB.after hW) rfl
  have HI := Lib.hid hI
  have hcap := hs.cap
  have hmax := hs.max
  have HOWN := Lib.hid hown
  have HB := Lib.hid hB
  have HTL := Lib.hid htl
  have hnv : (Value.slice A n c).ownBlock ≠ some nb := row_ne hown hB (by decide)
  have HNV := Lib.hid hnv
  clear hI hs hB hnv hown htl
  go_enter Try.func28, Try.ntmps28
  go_wp2_with fail
  refine HI.out.mono ?_
  rintro e w2 ⟨hb2, hcase⟩
  have HB2 := Lib.hid hb2
  clear hb2
  rcases hcase with ⟨rfl, hall⟩ | ⟨k, hk, rfl, ⟨t, ht, hpt⟩, hall⟩
  · have hf : ts.filter (keepb now) = ts := List.filter_eq_self.2 fun u hu => by unfold keepb; rw [hall u hu]; rfl
    have HF := Lib.hid hf
    clear hall hf
    go_wp2
    go_ret
    rw [HF.out, HTL.out]
    exact ⟨_, rfl, own_after HOWN.out HB2.out, grown_of_below HB2.out _, rfl⟩
  · obtain ⟨gb, hA⟩ : ∃ gb, A = some ⟨gb, 0, none⟩ := by
      rcases HOWN.out.2 with ⟨_, h0⟩ | ⟨gb, cap, cur, hv, _⟩
      · omega
      · injection hv with e; exact ⟨gb, e⟩
    subst hA
    have hK := KI.start ht hpt hall
    have HK := Lib.hid hK
    have hne1 : ((k : Int) == -1) = false := beq_eq_false_iff_ne.2 (by omega)
    have hwk : IntKind.i64.wrap ((k : Int) + 1) = (k : Int) + 1 := by rw [IntKind.wrap_i64]; omega
    clear hall ht hpt hK
    go_wp2
    go_loopw [5, 6, 7] (fun s5 s6 _ wr => ∃ (i j : Nat) (us : List Tm), s5 = .int .i64 i ∧ s6 = .int .i64 j ∧ KI now ts us i j ∧ wr.ownsRow 0 62 2 (.slice (some ⟨gb, 0, none⟩) n c) n (tcells us) ∧ w.grownBy wr (some gb)) (fun _ s6 _ _ => n - (intOf s6).toNat)
    case atStart => exact ⟨k, k + 1, ts, rfl, by first | rfl | go_num, HK.out, own_after HOWN.out HB2.out, grown_of_below HB2.out _⟩
    case round =>
      obtain ⟨i, j, us, rfl, rfl, hKI, hrow, hgr⟩ := hrel
      have hij := hKI.ij
      have hjn : j ≤ n := by rw [← HTL.out]; exact hKI.jn
      have hb := HB.out.grown hgr (fun e => HNV.out e.symm)
      have HKI := Lib.hid hKI
      have HROW := Lib.hid hrow
      have HGR := Lib.hid hgr
      have HBR := Lib.hid hb
      clear hKI hrow hgr hb
      by_cases hlt : j < n
      · obtain ⟨A', c', hv', hs⟩ := own_sl HROW.out
        injection hv' with e1 e2 e3
        subst e1 e3
        obtain ⟨ad, t, hA, ht, z0, z1⟩ := hs.tm hlt
        injection hA with hA
        subst hA
        have hw0 := hs.lt (by decide) (by omega) rfl
        clear hs
        rw [addr0] at z0 z1
        simp only at z0 z1 hw0
        have hne : gb ≠ wr.heap.size := by omega
        rw [HKI.out.at] at ht
        have HT := Lib.hid ht
        clear ht
        obtain ⟨ti, ta⟩ := t
        simp only at z0 z1
        have hcall := fun W (h : Blk W nb 58 #[.int .u64 (now : Int), nv, .bool pz]) {b : Bool} (hb : lateb now (ti, ta) = b) => late_any nb now nv pz (ti, ta) W h hb
        have HC := Lib.hid hcall
        clear hcall
        have hone := own_here HROW.out
        have q0 := hone.1 (i * 2) (by omega)
        have q1 := hone.1 (i * 2 + 1) (by omega)
        obtain ⟨o0, q0⟩ := Option.isSome_iff_exists.1 q0
        obtain ⟨o1, q1⟩ := Option.isSome_iff_exists.1 q1
        have f0 := hone.2 (i * 2)
        have f1 := hone.2 (i * 2 + 1)
        clear hone
        cases hq : lateb now (ti, ta) with
        | true =>
          go_wp2_with fail
          refine (HC.out _ (HBR.out.alloc _) hq).mono ?_
          rintro e w3 ⟨rfl, hb3⟩
          have hgr3 := (grown_alloc HGR.out (.cells #[.int .i64 ti, .int .u64 (ta : Int)] 62)).below' hb3
          have hrow3 := own_after (own_alloc' HROW.out (.cells #[.int .i64 ti, .int .u64 (ta : Int)] 62)) hb3
          have HG3 := Lib.hid hgr3
          have HR3 := Lib.hid hrow3
          clear hgr3 hrow3 hb3 z0 z1 q0 q1 f0 f1
          go_wp2
          go_roundw
          case rel => exact ⟨i, j + 1, us, by first | rfl | go_num, by first | rfl | go_num, HKI.out.skip HT.out hq, HR3.out, HG3.out⟩
          case measure => simp [intOf]; omega
        | false =>
          go_wp2_with fail
          refine (HC.out _ (HBR.out.alloc _) hq).mono ?_
          rintro e w3 ⟨rfl, hb3⟩
          have hgr3 := (grown_alloc HGR.out (.cells #[.int .i64 ti, .int .u64 (ta : Int)] 62)).below' hb3
          have hrow3 := own_after (own_alloc' HROW.out (.cells #[.int .i64 ti, .int .u64 (ta : Int)] 62)) hb3
          have hnb := (Blk.new wr 62 #[.int .i64 ti, .int .u64 (ta : Int)]).after hb3
          obtain ⟨t0, t1⟩ := hnb.c2
          have hone := own_here hrow3
          have q0 := hone.1 (i * 2) (by omega)
          have q1 := hone.1 (i * 2 + 1) (by omega)
          obtain ⟨o0, q0⟩ := Option.isSome_iff_exists.1 q0
          obtain ⟨o1, q1⟩ := Option.isSome_iff_exists.1 q1
          have f0 := hone.2 (i * 2)
          have f1 := hone.2 (i * 2 + 1)
          have HG3 := Lib.hid hgr3
          have HR3 := Lib.hid hrow3
          have hwi : IntKind.i64.wrap ((i : Int) + 1) = (i : Int) + 1 := by rw [IntKind.wrap_i64]; omega
          clear hgr3 hrow3 hb3 z0 z1 hone hnb
          go_wp2
          go_roundw
          case rel =>
            refine ⟨i + 1, j + 1, us.set i (ti, ta), by first | rfl | go_num, by first | rfl | go_num, HKI.out.keep HT.out hq, ?_, grown_setCells [.int .i64 ti, .int .u64 (ta : Int)] (i * 2) HG3.out⟩
            have := own_setCells HR3.out rfl (i * 2) [.int .i64 ti, .int .u64 (ta : Int)] (by simp; omega)
            rw [tcells_set _ _ _ (by rw [HKI.out.len, HTL.out]; omega)]
            exact this
          case measure => simp [intOf]; omega
      · obtain rfl : j = n := by omega
        have hone := own_here HROW.out
        have hcl : Hid (∀ q, q < (j - i) * 2 → (wr.cell? ⟨gb, i * 2 + q, none⟩).isSome = true) := fun q hq => hone.1 _ (by omega)
        have hcf : Hid (∀ q, q < (j - i) * 2 → wr.frozen? ⟨gb, i * 2 + q, none⟩ = false) := fun q hq => hone.2 _
        have hic : i < c := by omega
        have hci : ¬ c = i := by omega
        clear hone
        go_wp2_with (with_reducible refine wpList_clear_k _ rfl (.tmp 38) 56 rfl 62 (.agg #[.int .i64 0, .int .u64 0]) 2 Try.underlying56 tm_zero tm_z1 rfl gb (i * 2) (j - i) (c - i) (by first | rfl | simp [Act.eval]) (by omega) hcl.out hcf.out ?_; intro vs hvs)
        go_ret
        have hKI := HKI.out
        rw [← HTL.out] at hKI
        obtain ⟨h1, h2⟩ := hKI.done
        refine ⟨_, rfl, ?_, grown_setCells _ _ HGR.out, rfl⟩
        have r2 := own_setCells HROW.out rfl (i * 2) vs (by rw [hvs]; omega)
        have r3 := own_cut r2 (show i ≤ j by omega)
        have he : List.take (i * 2) (List.take (i * 2) (tcells us) ++ vs ++ List.drop (i * 2 + vs.length) (tcells us)) = tcells (ts.filter (keepb now)) := by
          have hl : (List.take (i * 2) (tcells us)).length = i * 2 := by rw [List.length_take, tcells_len, HKI.out.len, HTL.out]; omega
          rw [List.append_assoc, List.take_append_of_le_length (by omega), List.take_of_length_le (by omega), ← tcells_take, h1]
        rw [he] at r3
        rw [← h2]
        exact r3
end Go.Proofs.Ytcocakbopbehjaa
