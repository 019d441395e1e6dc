/- slices.IndexFunc, DeleteFunc at integers; the others. -/
import Derived.Test.YtbgdepaffgeinaaElInt
namespace Go.Proofs.Ytbgdepaffgeinaa
open Go.RowKit
set_option maxRecDepth 100000 in
/-- is it the node itself? -/
theorem isMe_any (g b : Nat) (me i : Int) (W : World) (hg : Blk W g 52 #[.pointer (some ⟨b, 0, none⟩)]) (hb : W.cell? ⟨b, 0, none⟩ = some (.int .i64 me)) {r : Bool} (hr : (i == me) = r) :
    Calls Try.prog 60 #[.int .i64 i, .pointer (some ⟨g, 0, none⟩)] W fun e w' => e = .returned (.bool r) ∧ W = w' := by
  have c := hg.c1
  clear hg
  go_enter Try.func60, Try.ntmps60
  go_wp2
  go_ret
  exact ⟨by first | rfl | simp [hr], by first | rfl | trivial⟩
/-- what the closure needs: its box, its node's number -/
def MeAt (W : World) (g b : Nat) (me : Int) : Prop := Blk W g 52 #[.pointer (some ⟨b, 0, none⟩)] ∧ W.cell? ⟨b, 0, none⟩ = some (.int .i64 me)
set_option maxRecDepth 100000 in
set_option maxHeartbeats 1600000 in
theorem idxMe_any (A : Option Addr) (n c lo hi : Nat) (xs : List Int) (g b : Nat) (me : Int) (w : World) (hs : Sl w lo hi 1 A n c (xs.map iv)) (hg : MeAt w g b me) :
    Calls Try.prog 78 #[.slice A n c, .func (.func 60) #[] #[.pointer (some ⟨g, 0, none⟩)]] w fun e w' => w = w' ∧
      ((e = .returned (.int .i64 (-1)) ∧ ∀ t ∈ xs, (t == me) = false) ∨ ∃ k : Nat, k < n ∧ e = .returned (.int .i64 (k : Int)) ∧ (∃ t, xs[k]? = some t ∧ (t == me) = true) ∧ ∀ j t, j < k → xs[j]? = some t → (t == me) = false) := by
  have hlen := ilen hs
  have hmax := hs.max
  have hcap := hs.cap
  have HL := Lib.hid hlen
  have HC := Lib.hid (fun (i : Int) (r : Bool) (hr : (i == me) = r) => isMe_any g b me i w hg.1 hg.2 hr)
  clear hlen hg
  go_enter Try.func78, Try.ntmps78
  go_wp2
  go_loopw [5, 8] (fun _ i wr => ∃ k : Nat, k ≤ n ∧ i = .int .i64 k ∧ w = wr ∧ ∀ j t, j < k → xs[j]? = some t → (t == me) = false) (fun _ i _ => n - (intOf i).toNat)
  case atStart => exact ⟨0, Nat.zero_le _, rfl, rfl, fun j t hj => absurd hj (Nat.not_lt_zero _)⟩
  case round =>
    obtain ⟨k, hk, rfl, rfl, hall⟩ := hrel
    have HA := Lib.hid hall
    clear hall
    by_cases hlt : k < n
    · obtain ⟨ad, t, rfl, ht, x0⟩ := hs.int hlt
      have HT := Lib.hid ht
      clear ht
      cases hq : (t == me) with
      | true =>
        have HQ := Lib.hid hq
        clear hq
        go_wp2_with fail
        refine (HC.out t _ HQ.out).mono ?_
        rintro e _ ⟨rfl, rfl⟩
        go_wp2
        go_ret
        exact ⟨by first | rfl | trivial, .inr ⟨k, hlt, by first | rfl | trivial, ⟨_, HT.out, HQ.out⟩, HA.out⟩⟩
      | false =>
        have HQ := Lib.hid hq
        clear hq
        go_wp2_with fail
        refine (HC.out t _ HQ.out).mono ?_
        rintro e _ ⟨rfl, rfl⟩
        go_wp2
        go_roundw
        case rel =>
          refine ⟨k + 1, by omega, by first | rfl | go_num, by first | rfl | trivial, fun j u hj hu => ?_⟩
          by_cases e : j = k
          · subst e
            rw [HT.out] at hu
            injection hu with hu
            rw [← hu]; exact HQ.out
          · exact HA.out j u (by omega) hu
        case measure => simp [intOf]; omega
    · obtain rfl : k = n := by omega
      go_wp2
      go_ret
      refine ⟨by first | rfl | trivial, .inl ⟨by first | rfl | trivial, fun t ht => ?_⟩⟩
      obtain ⟨j, hj⟩ := List.getElem?_of_mem ht
      exact HA.out j t (by rw [← HL.out]; exact (List.getElem?_eq_some_iff.1 hj).1) hj
section
variable {α : Type} {d : α → Bool}
/-- how far the kept ones are moved -/
structure KI (d : α → Bool) (ts us : List α) (i j : Nat) : Prop where
  len : us.length = ts.length
  lo : us.take i = (ts.take j).filter (fun t => !d t)
  hi : us.drop j = ts.drop j
  ij : i < j
  jn : j ≤ ts.length
theorem KI.start {ts : List α} {k : Nat} {t : α} (hk : ts[k]? = some t) (hl : d t = true) (hall : ∀ j t, j < k → ts[j]? = some t → d t = false) : KI d ts ts k (k + 1) := by
  obtain ⟨h1, h2⟩ := List.getElem?_eq_some_iff.1 hk
  refine ⟨rfl, ?_, rfl, by omega, by omega⟩
  rw [List.take_succ_eq_append_getElem h1, List.filter_append, h2]
  have e1 : (ts.take k).filter (fun t => !d t) = ts.take k := List.filter_eq_self.2 fun u hu => by
    obtain ⟨j, hj⟩ := List.getElem?_of_mem hu
    rw [List.getElem?_take] at hj
    split at hj
    · next hlt => rw [hall j u hlt hj]; rfl
    · cases hj
  rw [e1]
  simp [hl]
theorem KI.skip {ts us : List α} {i j : Nat} {t : α} (h : KI d ts us i j) (ht : ts[j]? = some t) (hl : d t = true) : KI d ts us i (j + 1) := by
  obtain ⟨h1, h2⟩ := List.getElem?_eq_some_iff.1 ht
  refine ⟨h.len, ?_, ?_, by have := h.ij; omega, by omega⟩
  · rw [List.take_succ_eq_append_getElem h1, List.filter_append, h2, h.lo]
    simp [hl]
  · have := congrArg (List.drop 1) h.hi
    simpa [List.drop_drop] using this
theorem KI.keep {ts us : List α} {i j : Nat} {t : α} (h : KI d ts us i j) (ht : ts[j]? = some t) (hl : d t = false) : KI d ts (us.set i t) (i + 1) (j + 1) := by
  obtain ⟨h1, h2⟩ := List.getElem?_eq_some_iff.1 ht
  have hij := h.ij
  have hiu : i < us.length := by rw [h.len]; omega
  refine ⟨by rw [List.length_set]; exact h.len, ?_, ?_, by omega, by omega⟩
  · rw [List.take_succ_eq_append_getElem h1, List.filter_append, h2, ← h.lo, List.take_succ_eq_append_getElem (by rw [List.length_set]; exact hiu), List.take_set_of_le (Nat.le_refl _), List.getElem_set_self]
    simp [hl]
  · rw [List.drop_set_of_lt (by omega)]
    have := congrArg (List.drop 1) h.hi
    simpa [List.drop_drop] using this
theorem KI.at {ts us : List α} {i j : Nat} (h : KI d ts us i j) : us[j]? = ts[j]? := by
  have := congrArg (·[0]?) h.hi
  simpa using this
theorem KI.done {ts us : List α} {i : Nat} (h : KI d ts us i ts.length) : us.take i = ts.filter (fun t => !d t) ∧ i = (ts.filter (fun t => !d t)).length := by
  have h1 := h.lo
  rw [List.take_length] at h1
  refine ⟨h1, ?_⟩
  rw [← h1, List.length_take, h.len]
  have := h.ij
  omega
end
set_option maxHeartbeats 1600000 in
set_option maxRecDepth 1000000 in
theorem idelf_any (v : Value) (n H g b : Nat) (me : Int) (xs : List Int) (w : World) (hown : w.ownsRow H 3 1 v n (xs.map iv)) (hg : MeAt w g b me) (hgH : g < H) (hbH : b < H) :
    Calls Try.prog 58 #[v, .func (.func 60) #[] #[.pointer (some ⟨g, 0, none⟩)]] w fun e w' => ∃ v', e = .returned v' ∧ w'.ownsRow H 3 1 v' (xs.filter fun i => !(i == me)).length ((xs.filter fun i => !(i == me)).map iv) ∧ w.grownBy w' v.ownBlock ∧ v'.ownBlock = v.ownBlock := by
  have htl : xs.length = n := by have := hown.1; rw [List.length_map] at this; omega
  obtain ⟨A, c, rfl, hs⟩ := own_sl hown
  have hI := idxMe_any A n c H w.heap.size xs g b me w hs hg
  have HI := Lib.hid hI
  have hcap := hs.cap
  have hmax := hs.max
  have HOWN := Lib.hid hown
  have HG := Lib.hid hg
  have HTL := Lib.hid htl
  clear hI hs hg hown htl
  go_enter Try.func58, Try.ntmps58
  go_wp2_with fail
  refine HI.out.mono ?_
  rintro e _ ⟨rfl, hcase⟩
  rcases hcase with ⟨rfl, hall⟩ | ⟨k, hk, rfl, ⟨t, ht, hpt⟩, hall⟩
  · have hf : xs.filter (fun i => !(i == me)) = xs := List.filter_eq_self.2 fun u hu => by rw [hall u hu]; rfl
    have HF := Lib.hid hf
    clear hall hf
    go_wp2
    go_ret
    rw [HF.out, HTL.out]
    exact ⟨_, rfl, HOWN.out, World.grownBy.refl w _, rfl⟩
  · obtain ⟨gb, hA⟩ : ∃ gb, A = some ⟨gb, 0, none⟩ := by
      rcases HOWN.out.2 with ⟨_, h0⟩ | ⟨gb, cap, cur, hv, _⟩
      · omega
      · injection hv with e; exact ⟨gb, e⟩
    subst hA
    have hgb : H ≤ gb := (HOWN.out.lt gb rfl).1
    have hK := KI.start ht hpt hall
    have HK := Lib.hid hK
    have hne1 : ((k : Int) == -1) = false := beq_eq_false_iff_ne.2 (by omega)
    have hwk : IntKind.i64.wrap ((k : Int) + 1) = (k : Int) + 1 := by rw [IntKind.wrap_i64]; omega
    clear hall ht hpt hK
    go_wp2
    go_loopw [5, 6, 7] (fun s5 s6 _ wr => ∃ (i j : Nat) (us : List Int), s5 = .int .i64 i ∧ s6 = .int .i64 j ∧ KI (fun i => i == me) xs us i j ∧ wr.ownsRow H 3 1 (.slice (some ⟨gb, 0, none⟩) n c) n (us.map iv) ∧ w.grownBy wr (some gb)) (fun _ s6 _ _ => n - (intOf s6).toNat)
    case atStart => exact ⟨k, k + 1, xs, rfl, by first | rfl | go_num, HK.out, HOWN.out, World.grownBy.refl w _⟩
    case round =>
      obtain ⟨i, j, us, rfl, rfl, hKI, hrow, hgr⟩ := hrel
      have hij := hKI.ij
      have hjn : j ≤ n := by rw [← HTL.out]; exact hKI.jn
      have hgw : g < w.heap.size := HG.out.1.lt
      have hbw : b < w.heap.size := World.block_lt_of_cell? w _ HG.out.2
      have hg2 : MeAt wr g b me := ⟨HG.out.1.grown hgr (fun e => by injection e with e; omega), (World.cell?_of_block (hgr.block b hbw (fun e => by injection e with e; omega))).trans HG.out.2⟩
      have HKI := Lib.hid hKI
      have HROW := Lib.hid hrow
      have HGR := Lib.hid hgr
      have HG2 := Lib.hid hg2
      clear hKI hrow hgr hg2 hgw hbw
      by_cases hlt : j < n
      · obtain ⟨A', c', hv', hs⟩ := own_sl HROW.out
        injection hv' with e1 e2 e3
        subst e1 e3
        obtain ⟨ad, t, hA, ht, z0⟩ := hs.int hlt
        injection hA with hA
        subst hA
        have hw0 := hs.lt (by decide) (by omega) rfl
        clear hs
        rw [addr0] at z0
        simp only at z0 hw0
        rw [HKI.out.at] at ht
        have HT := Lib.hid ht
        clear ht
        have HC := Lib.hid (fun (r : Bool) (hr : (t == me) = r) => isMe_any g b me t wr HG2.out.1 HG2.out.2 hr)
        have hone := own_here HROW.out
        have q0 := hone.1 i (by omega)
        obtain ⟨o0, q0⟩ := Option.isSome_iff_exists.1 q0
        have f0 := hone.2 i
        clear hone
        cases hq : (t == me) with
        | true =>
          have HQ := Lib.hid hq
          clear hq
          go_wp2_with fail
          refine (HC.out _ HQ.out).mono ?_
          rintro e _ ⟨rfl, rfl⟩
          go_wp2
          go_roundw
          case rel => exact ⟨i, j + 1, us, by first | rfl | go_num, by first | rfl | go_num, HKI.out.skip HT.out HQ.out, HROW.out, HGR.out⟩
          case measure => simp [intOf]; omega
        | false =>
          have HQ := Lib.hid hq
          clear hq
          have hwi : IntKind.i64.wrap ((i : Int) + 1) = (i : Int) + 1 := by rw [IntKind.wrap_i64]; omega
          go_wp2_with fail
          refine (HC.out _ HQ.out).mono ?_
          rintro e _ ⟨rfl, rfl⟩
          go_wp2
          go_roundw
          case rel =>
            refine ⟨i + 1, j + 1, us.set i t, by first | rfl | go_num, by first | rfl | go_num, HKI.out.keep HT.out HQ.out, ?_, grown_setCells [.int .i64 t] i HGR.out⟩
            have := own_setCells HROW.out rfl i [.int .i64 t] (by simp; omega)
            have hiu : i < us.length := by rw [HKI.out.len, HTL.out]; omega
            rw [List.map_set, List.set_eq_take_append_cons_drop, if_pos (by rw [List.length_map]; exact hiu)]
            rw [List.append_assoc] at this
            exact this
          case measure => simp [intOf]; omega
      · obtain rfl : j = n := by omega
        have hone := own_here HROW.out
        have hcl : Hid (∀ q, q < (j - i) * 1 → (wr.cell? ⟨gb, i + q, none⟩).isSome = true) := fun q hq => hone.1 _ (by omega)
        have hcf : Hid (∀ q, q < (j - i) * 1 → wr.frozen? ⟨gb, i + q, none⟩ = false) := fun q hq => hone.2 _
        have hic : i < c := by omega
        have hci : ¬ c = i := by omega
        clear hone
        go_wp2_with (with_reducible refine wpList_clear_k _ rfl (.tmp 38) 51 rfl 3 (.int .i64 0) 1 Try.underlying51 int_zero int_z1 rfl gb i (j - i) (c - i) (by first | rfl | simp [Act.eval]) (by omega) hcl.out hcf.out ?_; intro vs hvs)
        go_ret
        have hKI := HKI.out
        rw [← HTL.out] at hKI
        obtain ⟨h1, h2⟩ := hKI.done
        refine ⟨_, rfl, ?_, grown_setCells _ _ HGR.out, rfl⟩
        have r2 := own_setCells HROW.out rfl i vs (by rw [hvs]; omega)
        have r3 := own_cut r2 (show i ≤ j by omega)
        rw [Nat.mul_one] at r3
        have he : List.take i (List.take i (us.map iv) ++ vs ++ List.drop (i + vs.length) (us.map iv)) = (xs.filter fun i => !(i == me)).map iv := by
          have hl : (List.take i (us.map iv)).length = i := by rw [List.length_take, List.length_map, HKI.out.len, HTL.out]; omega
          rw [List.append_assoc, List.take_append_of_le_length (by omega), List.take_of_length_le (by omega), ← List.map_take, h1]
        rw [he] at r3
        rw [← h2]
        exact r3
set_option maxRecDepth 100000 in
set_option maxHeartbeats 1600000 in
theorem others_any {H : Nat} {O : Nat → Prop} {b : Nat} {p : NP} {x : ND} (w : World) (h : NodeP H w O b p x) (hc : x.conf.length ≤ 1000) :
    Calls Try.prog 33 #[.pointer (some ⟨b, 0, none⟩)] w fun e w' => ∃ v, e = .returned v ∧ w'.ownsRow w.heap.size 3 1 v x.others.length (x.others.map iv) ∧ Below w.heap.size w w' := by
  have hB := h.blk
  obtain ⟨A, c, hv, hs⟩ := own_sl h.conf
  have x4 : w.cell? ⟨b, 4, none⟩ = some (p.cv x) := hB.cell 4
  have x0 : w.cell? ⟨b, 0, none⟩ = some (.int .i64 x.me) := hB.cell 0
  rw [hv] at x4
  have hlt := hB.lt
  have hne : b ≠ w.heap.size := by omega
  have hI := iclone_any A x.conf.length c 0 w.heap.size x.conf (w.alloc (.cells #[.pointer (some ⟨b, 0, none⟩)] 52)) (hs.alloc (by decide) _) (by omega)
  have HI := Lib.hid hI
  have HX0 := Lib.hid x0
  have HXX := Lib.hid (show x.others = x.conf.filter fun i => !(i == x.me) from rfl)
  generalize x.others = xo at HXX ⊢
  generalize x.conf.length = n at x4 HI hc
  generalize x.conf = xc at HI HXX
  generalize x.me = me at HXX HX0 
  clear hI hs h hB hv x0
  go_enter Try.func33, Try.ntmps33
  go_wp2_with fail
  refine HI.out.mono ?_
  rintro e w2 ⟨v2, rfl, hown, hb2⟩
  have hg := (Blk.new w 52 #[.pointer (some ⟨b, 0, none⟩)]).after hb2
  have y0 := cell_below (below_boxed hb2) HX0.out
  have hD := idelf_any v2 n (w.heap.size + 1) w.heap.size b me xc w2 (by rw [alloc_size] at hown; exact hown) ⟨hg, y0⟩ (by omega) (by omega)
  have HD := Lib.hid hD
  have hv2 : ∀ k, v2.ownBlock = some k → w.heap.size ≤ k := fun k hk => by have := (hown.lt k hk).1; simp only [alloc_size] at this; omega
  have HV := Lib.hid hv2
  have HB := Lib.hid (below_boxed hb2)
  obtain ⟨A2, c2, hv2', -⟩ := own_sl hown
  subst hv2'
  clear hD hg hown hb2 hv2 y0
  go_wp2_with fail
  refine HD.out.mono ?_
  rintro e w3 ⟨v3, rfl, hown3, hg3, -⟩
  go_wp2
  go_ret
  rw [HXX.out]
  exact ⟨_, rfl, own_wide hown3 (by omega), HB.out.grown hg3 HB.out.size HV.out⟩
end Go.Proofs.Ytbgdepaffgeinaa
