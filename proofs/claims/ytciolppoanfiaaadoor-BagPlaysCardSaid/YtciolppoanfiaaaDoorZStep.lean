import Derived.Test.YtciolppoanfiaaaDoorZMsg
import Derived.Test.YtciolppoanfiaaaDoorZBagD
import Derived.Test.YtciolppoanfiaaaDoorZRBt
import Derived.Test.YtciolppoanfiaaaDoorZRBb
/- Rows of messages of the law's own; one of them taken out: plain words and laws. -/
namespace Go.Proofs.YtciolppoanfiaaaDoor
open Go.RowKit
theorem own_same {w w1 : World} {base e size n : Nat} {v : Value} {xs : List Value} (h : w.ownsRow base e size v n xs) (hb : ∀ b, v.ownBlock = some b → w1.heap[b]? = w.heap[b]?) : w1.ownsRow base e size v n xs := by
  rcases h.2 with hn | ⟨b, cap, cur, hv, h1, h2, rest⟩
  · exact ⟨h.1, .inl hn⟩
  · exact ⟨h.1, .inr ⟨b, cap, cur, hv, h1, (hb b (by rw [hv]; rfl)).trans h2, rest⟩⟩
/-- the messages that were sent -/
def sentM (ls : List Msg) : List Msg := ls.filter fun m => decide (m.plain.pkE = 0)
def frs (ms : List Msg) : List (List UInt8) := ms.map fun m => m.plain.pkL
theorem sentM_yes {ls : List Msg} {k : Nat} {m : Msg} (h : ls[k]? = some m) (hE : m.plain.pkE = 0) : sentM (ls.take (k + 1)) = sentM (ls.take k) ++ [m] := by
  obtain ⟨h1, h2⟩ := List.getElem?_eq_some_iff.1 h
  unfold sentM
  rw [List.take_succ_eq_append_getElem h1, List.filter_append, h2]
  simp [hE]
theorem sentM_no {ls : List Msg} {k : Nat} {m : Msg} (h : ls[k]? = some m) (hE : m.plain.pkE ≠ 0) : sentM (ls.take (k + 1)) = sentM (ls.take k) := by
  obtain ⟨h1, h2⟩ := List.getElem?_eq_some_iff.1 h
  unfold sentM
  rw [List.take_succ_eq_append_getElem h1, List.filter_append, h2]
  simp [hE]
theorem sentM_len (ls : List Msg) (k : Nat) : (sentM (ls.take k)).length ≤ k := Nat.le_trans (List.length_filter_le _ _) (List.length_take_le _ _)
/-- the row of all that lie in the bag: of the law's own, no block of the bag's -/
structure AllRow (H : Nat) (w : World) (O : Nat → Prop) (v : Value) (ms : List Msg) : Prop where
  row : w.ownsRow H 41 10 v ms.length (mscells ms)
  apart : ∀ b, v.ownBlock = some b → ¬ O b
section
variable {H : Nat} {w w1 w2 : World} {O O' : Nat → Prop} {v v2 : Value} {ms ns : List Msg} {g lost : Nat} {fs : List (List UInt8)} {ks : List (Int × Int)}
theorem AllRow.chg (h : AllRow H w O v ms) (hc : Chg O w w1) (hs : Sub O w O') : AllRow H w1 O' v ms :=
  ⟨own_same h.row fun b hb => hc.block b (h.row.lt b hb).2 (h.apart b hb), fun b hb hO => by
    rcases hs b hO with h1 | h1
    · exact h.apart b hb h1
    · have := (h.row.lt b hb).2; omega⟩
theorem AllRow.below (h : AllRow H w O v ms) (hb : Below w.heap.size w w1) : AllRow H w1 O v ms := ⟨own_same h.row fun b hv => hb.block b (h.row.lt b hv).2, h.apart⟩
/-- the row turns, or is another one behind: the bag stays -/
theorem BagAt.rowed (h : BagAt H w O g fs ks lost) {r : Option Nat} (hg : w.grownBy w1 r) (hr : ∀ b, r = some b → ¬ O b) : BagAt H w1 O g fs ks lost :=
  h.keep (fun b hO => hg.block b (h.top b hO) (fun e => hr b e.symm hO)) hg.size
theorem AllRow.grown (hv : ∀ b, v.ownBlock = some b → ¬ O b) (hB : BagAt H w O g fs ks lost) (ho : w2.ownsRow H 41 10 v2 ns.length (mscells ns)) (hat : v2.ownBlock = v.ownBlock ∨ v2.ownBlock = some w.heap.size) : AllRow H w2 O v2 ns :=
  ⟨ho, fun b hb hO => by
    rcases hat with e | e
    · exact hv b (e ▸ hb) hO
    · rw [e] at hb; injection hb with hb; have := hB.top b hO; omega⟩
theorem sent_app {w0 w4 : World} {o : Obj} {m : Msg} {v4 : Value} (hB : BagAt H w O g fs ks lost) (hA : AllRow H w O v ms) (hb : Below H w0 w) (hH : H ≤ w.heap.size) (hown : w4.ownsRow H 41 10 v4 (ms.length + 1) (mscells ms ++ mlist m)) (hg : (w.alloc o).grownBy w4 v.ownBlock) (hat : v4.ownBlock = v.ownBlock ∨ v4.ownBlock = some (w.alloc o).heap.size) :
    BagAt H w4 O g fs ks lost ∧ AllRow H w4 O v4 (ms ++ [m]) ∧ Below H w0 w4 :=
  ⟨(hB.alloc o).rowed hg hA.apart, AllRow.grown hA.apart (hB.alloc o) (by rw [mscells_append, List.length_append]; exact hown) hat, (hb.alloc hH o).grown hg (Nat.le_trans hH (by simp)) fun b hb => (hA.row.lt b hb).1⟩
theorem erase_row {w0 : World} {o : Obj} {v1 : Value} {d m : Nat} (hB : BagAt H w O g fs ks lost) (hb : Below H w0 w) (hH : H ≤ w.heap.size) (hm : d + 1 + m = ms.length)
    (o2 : w2.ownsRow H 41 10 v2 (0 + d + m) (([] ++ ((mscells ms).drop (0 * 10)).take (d * 10)) ++ ((mscells ms).drop ((d + 1) * 10)).take (m * 10)))
    (g1 : (w.alloc o).grownBy w1 (some w.heap.size)) (a1 : v1.ownBlock = some w.heap.size ∨ v1.ownBlock = some (w.alloc o).heap.size) (g2 : w1.grownBy w2 v1.ownBlock) (a2 : v2.ownBlock = v1.ownBlock ∨ v2.ownBlock = some w1.heap.size) :
    BagAt H w2 O g fs ks lost ∧ AllRow H w2 O v2 (ms.eraseIdx d) ∧ Below H w0 w2 := by
  have e1 : (w.alloc o).heap.size = w.heap.size + 1 := alloc_size _ _
  have hv1 : ∀ b, v1.ownBlock = some b → w.heap.size ≤ b := fun b h => by
    rcases a1 with e | e <;> (rw [e] at h; injection h with h; omega)
  have hB1 : BagAt H w1 O g fs ks lost := (hB.alloc o).rowed g1 fun b h hO => by injection h with h; have := hB.top b hO; omega
  have hb1 : Below H w0 w1 := (hb.alloc hH o).grown g1 (by omega) fun b h => by injection h with h; omega
  have hs1 := g1.size
  have hX : ([] ++ ((mscells ms).drop (0 * 10)).take (d * 10)) ++ ((mscells ms).drop ((d + 1) * 10)).take (m * 10) = mscells (ms.eraseIdx d) := by
    rw [List.eraseIdx_eq_take_drop_succ, mscells_append, mscells_take, mscells_drop, List.nil_append, Nat.zero_mul, List.drop_zero]
    congr 1
    exact List.take_of_length_le (by rw [List.length_drop, mscells_len]; omega)
  have hL : 0 + d + m = (ms.eraseIdx d).length := by rw [List.length_eraseIdx, if_pos (by omega)]; omega
  rw [hX, hL] at o2
  exact ⟨hB1.rowed g2 fun b h hO => by have := hB.top b hO; have := hv1 b h; omega, AllRow.grown (v := v1) (fun b h hO => by have := hB.top b hO; have := hv1 b h; omega) hB1 o2 a2, hb1.grown g2 (by omega) fun b h => by have := hv1 b h; omega⟩
end
theorem pk_pos {p : PMsg} (h : p.pkE = 0) : 0 < p.pkL.length := by
  have hc : p.check = 0 := by
    refine Decidable.byContradiction fun hc => ?_
    have := (pk_bad hc).1
    omega
  have hl : p.enc.length ≤ 1000 := by
    refine Decidable.byContradiction fun hl => ?_
    have := (pk_long hc (by omega)).1
    omega
  have := (pk_ok hc hl).2
  rw [this, frameOf_len]
  omega
theorem frs_at {ms : List Msg} {k : Nat} {m : Msg} (h : ms[k]? = some m) : (frs ms)[k]? = some m.plain.pkL := by unfold frs; rw [List.getElem?_map, h]; rfl
theorem frs_len (ms : List Msg) : (frs ms).length = ms.length := by unfold frs; rw [List.length_map]
theorem frs_erase (ms : List Msg) (k : Nat) : (frs ms).eraseIdx k = frs (ms.eraseIdx k) := by unfold frs; rw [Go.ChangeMaps.map_eraseIdx]
theorem erase_tk (ms : List Msg) (k : Nat) : ms.take k ++ ms.drop (k + 1) = ms.eraseIdx k := (List.eraseIdx_eq_take_drop_succ ms k).symm
end Go.Proofs.YtciolppoanfiaaaDoor

/- Both bags, the program's and the document's, alike. -/
namespace Go.Proofs.YtciolppoanfiaaaDoor
open Go.RowKit Go.ChangeMaps
theorem same2_pk (x y : Int) (c : Int × Int) : same2 x y c = true ↔ pk x y = pk c.1 c.2 := by
  unfold same2 pk
  simp only [Bool.or_eq_true, Bool.and_eq_true, beq_iff_eq, Prod.mk.injEq]
  constructor
  · intro h; omega
  · intro h; omega
/-- which pairs are cut, in the map and in the list -/
def Keys (ks cs : List (Int × Int)) : Prop := ∀ x y, pk x y ∈ ks ↔ cs.any (same2 x y) = true
theorem Keys.nil : Keys [] [] := fun x y => by simp
theorem any_filter (cs : List (Int × Int)) (a b x y : Int) (hne : pk x y ≠ pk a b) : (cs.filter fun c => !same2 a b c).any (same2 x y) = cs.any (same2 x y) := by
  rw [Bool.eq_iff_iff, List.any_eq_true, List.any_eq_true]
  constructor
  · rintro ⟨c, hc, h⟩
    exact ⟨c, (List.mem_filter.1 hc).1, h⟩
  · rintro ⟨c, hc, h⟩
    refine ⟨c, List.mem_filter.2 ⟨hc, ?_⟩, h⟩
    cases hs : same2 a b c with
    | false => rfl
    | true => exact absurd (((same2_pk x y c).1 h).trans ((same2_pk a b c).1 hs).symm) hne
theorem any_filter_same (cs : List (Int × Int)) (a b x y : Int) (he : pk x y = pk a b) : (cs.filter fun c => !same2 a b c).any (same2 x y) = false := by
  rw [Bool.eq_false_iff]
  intro h
  obtain ⟨c, hc, h⟩ := List.any_eq_true.1 h
  have h1 := (List.mem_filter.1 hc).2
  have h2 : same2 a b c = true := (same2_pk a b c).2 (he ▸ (same2_pk x y c).1 h)
  rw [h2] at h1
  cases h1
theorem Keys.cut {ks cs : List (Int × Int)} (h : Keys ks cs) (hn : ks.Nodup) (a b : Int) (c : Bool) : Keys (cutK ks (pk a b) c) (cutR cs a b c) := by
  intro x y
  unfold cutK cutR
  cases c with
  | true =>
    simp only [if_true]
    rw [List.any_append, Bool.or_eq_true]
    have h1 : ([(a, b)] : List (Int × Int)).any (same2 x y) = true ↔ pk x y = pk a b := by
      simp only [List.any_cons, List.any_nil, Bool.or_false]
      exact same2_pk x y (a, b)
    by_cases he : pk x y = pk a b
    · constructor
      · exact fun _ => .inr (h1.2 he)
      · intro _
        rw [he]
        split
        · next hm => exact hm
        · simp
    · rw [any_filter cs a b x y he, ← h x y]
      constructor
      · intro hm
        left
        split at hm
        · exact hm
        · rcases List.mem_append.1 hm with hm | hm
          · exact hm
          · exact absurd (List.mem_singleton.1 hm) he
      · rintro (hm | hm)
        · split
          · exact hm
          · exact List.mem_append.2 (.inl hm)
        · exact absurd (h1.1 hm) he
  | false =>
    simp only [Bool.false_eq_true, if_false, List.append_nil]
    rw [hn.mem_erase_iff]
    by_cases he : pk x y = pk a b
    · rw [any_filter_same cs a b x y he]
      simp [he]
    · rw [any_filter cs a b x y he, ← h x y]
      simp [he]
theorem dE_same {ks cs : List (Int × Int)} (h : Keys ks cs) (l : List UInt8) : dE ks l = dER cs l := by
  unfold dE dER
  by_cases h1 : pk (unM l).f (unM l).t ∈ ks
  · rw [if_pos h1, if_pos ((h _ _).1 h1)]
  · rw [if_neg h1, if_neg (fun h2 => h1 ((h _ _).2 h2))]
theorem BagAt.nodup {H : Nat} {w : World} {O : Nat → Prop} {g : Nat} {fs : List (List UInt8)} {ks : List (Int × Int)} {lost : Nat} (h : BagAt H w O g fs ks lost) : ks.Nodup := by
  obtain ⟨-, -, -, v, mb, F, -, -, ⟨es, c, _, _, hn, _⟩, -⟩ := h
  exact hn
/-- both bags: the program's at block g, the document's at block g2 -/
structure Both (H : Nat) (w : World) (g g2 : Nat) (fs : List (List UInt8)) (lost c : Nat) : Prop where
  hHw : H ≤ w.heap.size
  st : ∃ O S ks F cs, BagAt H w O g fs ks lost ∧ RB w S g2 F cs lost ∧ F.map RF.l = fs ∧ (∀ k, S k → H ≤ k ∧ ¬ O k) ∧ Keys ks cs ∧ cs.length ≤ c
  few : fs.length ≤ 60
  len : ∀ l ∈ fs, 0 < l.length ∧ l.length ≤ 100000
  lst : lost ≤ c
section
variable {H : Nat} {w w1 w2 : World} {O O' S S' : Nat → Prop} {g g2 : Nat} {fs fs' : List (List UInt8)} {ks ks' : List (Int × Int)} {lost lost' c : Nat} {F F' : List RF} {cs cs' : List (Int × Int)}
/-- both bags have made a step -/
theorem Both.step (hHw : H ≤ w.heap.size) (hr : RB w S g2 F cs lost) (hSO : ∀ k, S k → H ≤ k ∧ ¬ O k) (hb : BagAt H w O g fs ks lost)
    (hb1 : BagAt H w1 O' g fs' ks' lost') (hC1 : Chg O w w1) (hS1 : Sub O w O')
    (hr2 : RB w2 S' g2 F' cs' lost') (hC2 : Chg (GO g2) w1 w2) (hS2 : ∀ b, S' b → S b ∨ w1.heap.size ≤ b)
    (hF : F'.map RF.l = fs') (hK : Keys ks' cs') (hc : cs'.length ≤ c) (hfew : fs'.length ≤ 60) (hlen : ∀ l ∈ fs', 0 < l.length ∧ l.length ≤ 100000) (hl : lost' ≤ c) : Both H w2 g g2 fs' lost' c ∧ Below H w w2 := by
  have hd : ∀ k, S k → ¬ O' k := fun k hk hO => by
    rcases hS1 k hO with h | h
    · exact (hSO k hk).2 h
    · have := hr.top k hk; omega
  have hg2 : ¬ O' g2 := hd g2 hr.gS
  have hg2H : H ≤ g2 := (hSO g2 hr.gS).1
  have hb2 : BagAt H w2 O' g fs' ks' lost' := hb1.other hC2 (fun k hk e => hg2 (by have e' : k = g2 := e; rw [← e']; exact hk))
  have hbel : Below H w w2 := (hC1.toBelow hb.low hHw).trans (hC2.toBelow (fun k hk => by have e : k = g2 := hk; omega) (Nat.le_trans hHw hC1.size))
  refine ⟨⟨Nat.le_trans hHw hbel.size, ⟨O', S', ks', F', cs', hb2, hr2, hF, fun k hk => ?_, hK, hc⟩, hfew, hlen, hl⟩, hbel⟩
  rcases hS2 k hk with h | h
  · exact ⟨(hSO k h).1, hd k h⟩
  · exact ⟨Nat.le_trans (Nat.le_trans hHw hC1.size) h, fun hO => by have := hb1.top k hO; omega⟩
/-- nothing of both bags has changed -/
theorem Both.after (h : Both H w g g2 fs lost c) (hb : Below w.heap.size w w1) : Both H w1 g g2 fs lost c := by
  obtain ⟨h1, ⟨O, S, ks, F, cs, a, b, d, e, f, i⟩, h2, h3, h4⟩ := h
  exact ⟨Nat.le_trans h1 hb.size, ⟨O, S, ks, F, cs, a.after hb, b.after hb, d, e, f, i⟩, h2, h3, h4⟩
theorem Both.more (h : Both H w g g2 fs lost c) {d : Nat} (hd : c ≤ d) : Both H w g g2 fs lost d := by
  obtain ⟨h1, ⟨O, S, ks, F, cs, a, b, x, e, f, i⟩, h2, h3, h4⟩ := h
  exact ⟨h1, ⟨O, S, ks, F, cs, a, b, x, e, f, Nat.le_trans i hd⟩, h2, h3, Nat.le_trans h4 hd⟩
end
end Go.Proofs.YtciolppoanfiaaaDoor

/- One step of the program's bag, then of the document's. -/
namespace Go.Proofs.YtciolppoanfiaaaDoor
open Go.RowKit
def Kept (w0 w w1 : World) : Prop := ∀ k, w0.heap.size ≤ k → k < w.heap.size → w1.heap[k]? = w.heap[k]?
def Next (H : Nat) (w w2 : World) (g g2 c : Nat) : Prop := Below H w w2 ∧ ∃ fs' lost', Both H w2 g g2 fs' lost' (c + 1)
section
variable {H : Nat} {w0 w w1 w2 : World} {g g2 : Nat} {fs : List (List UInt8)} {lost c : Nat}
theorem Kept.chg {O : Nat → Prop} (hC : Chg O w w1) (hO : ∀ k, O k → k < w0.heap.size) : Kept w0 w w1 := fun k hk hl => hC.block k hl fun h => by have := hO k h; omega
theorem Kept.below (hb : Below w.heap.size w w1) : Kept w0 w w1 := fun k _ hl => hb.block k hl
theorem Next.same (h : Both H w0 g g2 fs lost c) (hw : Below w0.heap.size w0 w) (hb : Below w.heap.size w w2) : Next H w w2 g g2 c :=
  ⟨hb.mono (Nat.le_trans h.hHw hw.size), fs, lost, ((h.after hw).after hb).more (Nat.le_succ _)⟩
theorem map_erase {F : List RF} {j : Nat} : (F.eraseIdx j).map RF.l = (F.map RF.l).eraseIdx j := by
  induction F generalizing j with
  | nil => rfl
  | cons f F ih =>
    cases j with
    | zero => rfl
    | succ j => simp [List.eraseIdx, ih]
theorem erase_len {fs : List (List UInt8)} {j : Nat} (h : ∀ l ∈ fs, 0 < l.length ∧ l.length ≤ 100000) : ∀ l ∈ fs.eraseIdx j, 0 < l.length ∧ l.length ≤ 100000 := fun l hl => h l (List.mem_of_mem_eraseIdx hl)
theorem at_of {F : List RF} {fs : List (List UInt8)} (h : F.map RF.l = fs) {j : Nat} (hj : j < fs.length) : ∃ f l, F[j]? = some f ∧ fs[j]? = some l ∧ f.l = l := by
  subst h
  have hj' : j < F.length := by simpa using hj
  exact ⟨F[j], F[j].l, List.getElem?_eq_getElem hj', by rw [List.getElem?_map, List.getElem?_eq_getElem hj']; rfl, rfl⟩
theorem drop_both (i : Int) (h : Both H w0 g g2 fs lost c) (hc : c ≤ 1000) (hw : Below w0.heap.size w0 w) :
    ∃ E : Int, Calls Tryd.prog 44 #[.pointer (some ⟨g, 0, none⟩), .int .i64 i] w fun e w1 => e = .returned (.int .i64 E) ∧ Kept w0 w w1 ∧ ∀ w1', Below w1.heap.size w1 w1' →
      Calls Tryd.prog 71 #[.pointer (some ⟨g2, 0, none⟩), .int .i64 i] w1' fun e w2 => e = .returned (.int .i64 E) ∧ Next H w w2 g g2 c := by
  have h0 := h
  obtain ⟨hHw, ⟨O, S, ks, F, cs, hb, hr, hF, hSO, hK, hcl⟩, hfew, hlen, hl⟩ := h
  have hb' := hb.after hw
  have hr' := hr.after hw
  have hHw' : H ≤ w.heap.size := Nat.le_trans hHw hw.size
  have hFl : F.length = fs.length := by rw [← hF]; simp
  by_cases hi : 0 ≤ i ∧ i < (fs.length : Int)
  · obtain ⟨j, rfl⟩ : ∃ j : Nat, i = (j : Int) := ⟨i.toNat, by omega⟩
    refine ⟨0, (bdrop_ok j w hb' (by omega) (by omega) (by omega)).mono ?_⟩
    rintro e w1 ⟨rfl, hb1, hC1⟩
    refine ⟨rfl, Kept.chg hC1 hb.top, fun w1' hx => ?_⟩
    refine (rbdrop_ok j w1' ((hr'.other hC1 fun k hk => (hSO k hk).2).after hx) (by omega) (by omega) (by omega)).mono ?_
    rintro e w2 ⟨S', rfl, hr2, hC2, hS2⟩
    have := Both.step (c := c + 1) hHw' hr' hSO hb' (hb1.after hx) (hC1.trans (Sub.refl _ _) (Chg.below hx)) (Sub.refl _ _) hr2 hC2 hS2 (by rw [← hF, map_erase]) hK (by omega) (by have := List.length_eraseIdx_le fs j; omega) (erase_len hlen) (by omega)
    exact ⟨rfl, this.2, _, _, this.1⟩
  · refine ⟨1, (bdrop_no i w hb' hi).mono ?_⟩
    rintro e w1 ⟨rfl, rfl⟩
    refine ⟨rfl, Kept.below (Below.refl _ _), fun w1' hx => ?_⟩
    refine (rbdrop_no i w1' (hr'.after hx) (by omega)).mono ?_
    rintro e w2 ⟨rfl, rfl⟩
    exact ⟨rfl, Next.same h0 hw hx⟩
theorem twice_both (i : Int) (h : Both H w0 g g2 fs lost c) (hw : Below w0.heap.size w0 w) :
    ∃ E : Int, Calls Tryd.prog 43 #[.pointer (some ⟨g, 0, none⟩), .int .i64 i] w fun e w1 => e = .returned (.int .i64 E) ∧ Kept w0 w w1 ∧ ∀ w1', Below w1.heap.size w1 w1' →
      Calls Tryd.prog 72 #[.pointer (some ⟨g2, 0, none⟩), .int .i64 i] w1' fun e w2 => e = .returned (.int .i64 E) ∧ Next H w w2 g g2 c := by
  have h0 := h
  obtain ⟨hHw, ⟨O, S, ks, F, cs, hb, hr, hF, hSO, hK, hcl⟩, hfew, hlen, hl⟩ := h
  have hb' := hb.after hw
  have hr' := hr.after hw
  have hHw' : H ≤ w.heap.size := Nat.le_trans hHw hw.size
  have hFl : F.length = fs.length := by rw [← hF]; simp
  by_cases hi : 0 ≤ i ∧ i < (fs.length : Int)
  · obtain ⟨j, rfl⟩ : ∃ j : Nat, i = (j : Int) := ⟨i.toNat, by omega⟩
    by_cases h60 : fs.length < 60
    · obtain ⟨f, l, hf, hfl, hl1⟩ := at_of hF (j := j) (by omega)
      have hll := hlen l (List.mem_of_getElem? hfl)
      refine ⟨0, (btwice_ok j l w hb' hHw' hfl h60 hll.1 hll.2).mono ?_⟩
      rintro e w1 ⟨O', rfl, hb1, hC1, hS1⟩
      refine ⟨rfl, Kept.chg hC1 hb.top, fun w1' hx => ?_⟩
      refine (rbtwice_ok j w1' ((hr'.other hC1 fun k hk => (hSO k hk).2).after hx) hf (by omega)).mono ?_
      rintro e w2 ⟨S', rfl, hr2, hC2, hS2⟩
      have := Both.step (c := c + 1) hHw' hr' hSO hb' (hb1.after hx) (hC1.trans (Sub.refl _ _) (Chg.below hx)) hS1 hr2 hC2 hS2 (by rw [← hF, List.map_append, List.map_cons, List.map_nil, hl1]) hK (by omega) (by simp; omega) (fun x hx => by rcases List.mem_append.1 hx with hx | hx; exact hlen x hx; rw [List.mem_singleton.1 hx]; exact hll) (by omega)
      exact ⟨rfl, this.2, _, _, this.1⟩
    · refine ⟨42, (btwice_full j w hb' (by omega) (by omega)).mono ?_⟩
      rintro e w1 ⟨rfl, rfl⟩
      refine ⟨rfl, Kept.below (Below.refl _ _), fun w1' hx => ?_⟩
      refine (rbtwice_full j w1' (hr'.after hx) (by omega) (by omega)).mono ?_
      rintro e w2 ⟨rfl, rfl⟩
      exact ⟨rfl, Next.same h0 hw hx⟩
  · refine ⟨1, (btwice_no i w hb' hi).mono ?_⟩
    rintro e w1 ⟨rfl, rfl⟩
    refine ⟨rfl, Kept.below (Below.refl _ _), fun w1' hx => ?_⟩
    refine (rbtwice_no i w1' (hr'.after hx) (by omega)).mono ?_
    rintro e w2 ⟨rfl, rfl⟩
    exact ⟨rfl, Next.same h0 hw hx⟩
theorem spoil_both (i k : Int) (hk : k ≤ 9223372036854775807) (h : Both H w0 g g2 fs lost c) (hw : Below w0.heap.size w0 w) :
    ∃ E : Int, Calls Tryd.prog 64 #[.pointer (some ⟨g, 0, none⟩), .int .i64 i, .int .i64 k] w fun e w1 => e = .returned (.int .i64 E) ∧ Kept w0 w w1 ∧ ∀ w1', Below w1.heap.size w1 w1' →
      Calls Tryd.prog 73 #[.pointer (some ⟨g2, 0, none⟩), .int .i64 i, .int .i64 k] w1' fun e w2 => e = .returned (.int .i64 E) ∧ Next H w w2 g g2 c := by
  have h0 := h
  obtain ⟨hHw, ⟨O, S, ks, F, cs, hb, hr, hF, hSO, hK, hcl⟩, hfew, hlen, hl⟩ := h
  have hb' := hb.after hw
  have hr' := hr.after hw
  have hHw' : H ≤ w.heap.size := Nat.le_trans hHw hw.size
  have hFl : F.length = fs.length := by rw [← hF]; simp
  by_cases hi : 0 ≤ i ∧ i < (fs.length : Int)
  · obtain ⟨j, rfl⟩ : ∃ j : Nat, i = (j : Int) := ⟨i.toNat, by omega⟩
    obtain ⟨f, l, hf, hfl, hl1⟩ := at_of hF (j := j) (by omega)
    have hll := hlen l (List.mem_of_getElem? hfl)
    by_cases hbt : k < 0 ∨ 8 * (l.length : Int) ≤ k
    · refine ⟨1, (bspoil_bad j k l w hb' hfl hbt hk).mono ?_⟩
      rintro e w1 ⟨rfl, rfl⟩
      refine ⟨rfl, Kept.below (Below.refl _ _), fun w1' hx => ?_⟩
      refine (rbspoil_bad j k l w1' (hr'.after hx) hf hl1 hll.2 hbt).mono ?_
      rintro e w2 ⟨rfl, rfl⟩
      exact ⟨rfl, Next.same h0 hw hx⟩
    · obtain ⟨b, rfl⟩ : ∃ b : Nat, k = (b : Int) := ⟨k.toNat, by omega⟩
      have hb8 : b / 8 < l.length := by omega
      refine ⟨0, (bspoil_ok j b l w hb' hfl hb8 hll.2).mono ?_⟩
      rintro e w1 ⟨rfl, hb1, hC1⟩
      refine ⟨rfl, Kept.chg hC1 hb.top, fun w1' hx => ?_⟩
      refine (rbspoil_ok j b l w1' ((hr'.other hC1 fun k hk => (hSO k hk).2).after hx) hf hl1 hb8 hll.2 (by omega)).mono ?_
      rintro e w2 ⟨f', S', rfl, hf', hr2, hC2, hS2⟩
      have := Both.step (c := c + 1) hHw' hr' hSO hb' (hb1.after hx) (hC1.trans (Sub.refl _ _) (Chg.below hx)) (Sub.refl _ _) hr2 hC2 hS2 (by rw [← hF, List.map_set, hf']) hK (by omega) (by simp; omega) (fun x hx => by
        rcases List.mem_or_eq_of_mem_set hx with hx | hx
        · exact hlen x hx
        · rw [hx, List.length_set]; exact hll) (by omega)
      exact ⟨rfl, this.2, _, _, this.1⟩
  · refine ⟨1, (bspoil_no i k w hb' hi).mono ?_⟩
    rintro e w1 ⟨rfl, rfl⟩
    refine ⟨rfl, Kept.below (Below.refl _ _), fun w1' hx => ?_⟩
    refine (rbspoil_no i k w1' (hr'.after hx) (by omega)).mono ?_
    rintro e w2 ⟨rfl, rfl⟩
    exact ⟨rfl, Next.same h0 hw hx⟩
theorem cutR_len (cs : List (Int × Int)) (x y : Int) (b : Bool) : (cutR cs x y b).length ≤ cs.length + 1 := by
  unfold cutR
  rw [List.length_append]
  have := List.length_filter_le (fun c => !same2 x y c) cs
  cases b <;> simp <;> omega
theorem cut_both (x y : Int) (b : Bool) (hx : -9223372036854775808 ≤ x ∧ x ≤ 9223372036854775807) (hy : -9223372036854775808 ≤ y ∧ y ≤ 9223372036854775807) (h : Both H w0 g g2 fs lost c) (hc : c ≤ 1000) (hw : Below w0.heap.size w0 w) :
    Calls Tryd.prog 34 #[.pointer (some ⟨g, 0, none⟩), .int .i64 x, .int .i64 y, .bool b] w fun e w1 => e = .returned (.tuple #[]) ∧ Kept w0 w w1 ∧ ∀ w1', Below w1.heap.size w1 w1' →
      Calls Tryd.prog 74 #[.pointer (some ⟨g2, 0, none⟩), .int .i64 x, .int .i64 y, .bool b] w1' fun e w2 => e = .returned (.tuple #[]) ∧ Next H w w2 g g2 c := by
  obtain ⟨hHw, ⟨O, S, ks, F, cs, hb, hr, hF, hSO, hK, hcl⟩, hfew, hlen, hl⟩ := h
  have hb' := hb.after hw
  have hr' := hr.after hw
  have hHw' : H ≤ w.heap.size := Nat.le_trans hHw hw.size
  have hC : Calls Tryd.prog 34 #[.pointer (some ⟨g, 0, none⟩), .int .i64 x, .int .i64 y, .bool b] w fun e w' => e = .returned (.tuple #[]) ∧ BagAt H w' O g fs (cutK ks (pk x y) b) lost ∧ Chg O w w' := by
    cases b with
    | true => exact bcut_any x y hx hy w hb'
    | false => exact bjoin_any x y hx hy w hb'
  refine hC.mono ?_
  rintro e w1 ⟨rfl, hb1, hC1⟩
  refine ⟨rfl, Kept.chg hC1 hb.top, fun w1' hx => ?_⟩
  refine (rbcut_any x y b w1' ((hr'.other hC1 fun k hk => (hSO k hk).2).after hx) (by omega)).mono ?_
  rintro e w2 ⟨S', rfl, hr2, hC2, hS2⟩
  have := Both.step (c := c + 1) hHw' hr' hSO hb' (hb1.after hx) (hC1.trans (Sub.refl _ _) (Chg.below hx)) (Sub.refl _ _) hr2 hC2 hS2 hF (hK.cut hb.nodup x y b) (by have := cutR_len cs x y b; omega) hfew hlen (by omega)
  exact ⟨rfl, this.2, _, _, this.1⟩
end
end Go.Proofs.YtciolppoanfiaaaDoor

/- Send and Deliver of both bags. -/
namespace Go.Proofs.YtciolppoanfiaaaDoor
open Go.RowKit
section
variable {H : Nat} {wH w0 w w1 w2 : World} {g g2 : Nat} {fs : List (List UInt8)} {lost c : Nat}
theorem send_both (m : Msg) (hm : IsMsg wH m) (hf : m.plain.fits) (hT : Tab wH) (hH : 0 < wH.heap.size) (h : Both wH.heap.size w0 g g2 fs lost c) (hc : c ≤ 1000) (hB : Below wH.heap.size wH w) (hw : Below w0.heap.size w0 w) :
    ∃ E : Int, Calls Tryd.prog 35 #[.pointer (some ⟨g, 0, none⟩), m.v] w fun e w1 => e = .returned (.int .i64 E) ∧ Kept w0 w w1 ∧ ∀ w1', Below w1.heap.size w1 w1' →
      Calls Tryd.prog 69 #[.pointer (some ⟨g2, 0, none⟩), m.v] w1' fun e w2 => e = .returned (.int .i64 E) ∧ Next wH.heap.size w w2 g g2 c := by
  obtain ⟨hHw, ⟨O, S, ks, F, cs, hb, hr, hF, hSO, hK, hcl⟩, hfew, hlen, hl⟩ := h
  have hb' := hb.after hw
  have hr' := hr.after hw
  have hHw' : wH.heap.size ≤ w.heap.size := Nat.le_trans hHw hw.size
  have hFl : F.length = fs.length := by rw [← hF]; simp
  have hTw := hT.below hB hH
  have hmw := hm.after hB
  have hmx : ∀ w1 w1', Chg O w w1 → Below w1.heap.size w1 w1' → IsMsg w1' m := fun w1 w1' hC1 hx =>
    hm.after ((hB.trans (hC1.toBelow hb'.low hHw')).trans (hx.mono (Nat.le_trans hHw' hC1.size)))
  obtain ⟨E, hE⟩ : ∃ E, m.plain.pkE = E := ⟨_, rfl⟩
  by_cases h0 : E = 0
  · by_cases h60 : fs.length < 60
    · have hE0 : m.plain.pkE = 0 := by rw [hE]; exact h0
      refine ⟨0, (bsend_ok m w hmw hb' hTw hH hHw' hE h0 h60).mono ?_⟩
      rintro e w1 ⟨O', rfl, hb1, hC1, hS1⟩
      refine ⟨rfl, Kept.chg hC1 hb.top, fun w1' hx => ?_⟩
      refine (rbsend_ok m w1' (hmx w1 w1' hC1 hx) hf ((hr'.other hC1 fun k hk => (hSO k hk).2).after hx) hE h0 (by omega)).mono ?_
      rintro e w2 ⟨f, S', rfl, hfl, hr2, hC2, hS2⟩
      have := Both.step (c := c + 1) hHw' hr' hSO hb' (hb1.after hx) (hC1.trans (Sub.refl _ _) (Chg.below hx)) hS1 hr2 hC2 hS2 (by rw [← hF, List.map_append, List.map_cons, List.map_nil, hfl]) hK (by omega) (by simp; omega) (fun x hx => by
        rcases List.mem_append.1 hx with hx | hx
        · exact hlen x hx
        · rw [List.mem_singleton.1 hx]; exact ⟨pk_pos hE0, Nat.le_trans (un_pk hE0 hf).2.2 (by omega)⟩) (by omega)
      exact ⟨rfl, this.2, _, _, this.1⟩
    · refine ⟨42, (bsend_full m w hmw hb' hTw hH hHw' hE h0 (by omega) (by omega)).mono ?_⟩
      rintro e w1 ⟨rfl, hb1, hC1⟩
      refine ⟨rfl, Kept.chg hC1 hb.top, fun w1' hx => ?_⟩
      refine (rbsend_full m w1' (hmx w1 w1' hC1 hx) hf ((hr'.other hC1 fun k hk => (hSO k hk).2).after hx) hE h0 (by omega) (by omega)).mono ?_
      rintro e w2 ⟨rfl, hr2, hC2⟩
      have := Both.step (c := c + 1) hHw' hr' hSO hb' (hb1.after hx) (hC1.trans (Sub.refl _ _) (Chg.below hx)) (Sub.refl _ _) hr2 hC2 (fun b hb => .inl hb) hF hK (by omega) hfew hlen (by omega)
      exact ⟨rfl, this.2, _, _, this.1⟩
  · refine ⟨(E : Int), (bsend_bad m w hmw hb' hTw hH hHw' hE h0).mono ?_⟩
    rintro e w1 ⟨rfl, hb1, hC1⟩
    refine ⟨rfl, Kept.chg hC1 hb.top, fun w1' hx => ?_⟩
    refine (rbsend_bad m w1' (hmx w1 w1' hC1 hx) hf ((hr'.other hC1 fun k hk => (hSO k hk).2).after hx) hE h0).mono ?_
    rintro e w2 ⟨rfl, hr2, hC2⟩
    have := Both.step (c := c + 1) hHw' hr' hSO hb' (hb1.after hx) (hC1.trans (Sub.refl _ _) (Chg.below hx)) (Sub.refl _ _) hr2 hC2 (fun b hb => .inl hb) hF hK (by omega) hfew hlen (by omega)
    exact ⟨rfl, this.2, _, _, this.1⟩
/-- the document's step leaves a message alone that was handed out before -/
theorem RB.msgIn {S : Nat → Prop} {F : List RF} {cs : List (Int × Int)} {m : Msg} (h : RB w S g2 F cs lost) (hm : IsMsg w m) (hC : Chg (GO g2) w w2) : IsMsg w2 m := by
  obtain ⟨-, -, Af, cf, Ac, cc, hbk, -, -, -⟩ := h
  refine hm.other hbk (fun i b => ?_) (fun i a b => ?_) hC.size (fun k hk hne => hC.block k hk hne)
  · match i with
    | 0 => simp
    | 1 => simp
    | 2 => simp
    | i + 3 => simp
  · match i with
    | 0 => simp
    | 1 => simp
    | 2 => simp
    | i + 3 => simp
theorem deliver_both (i : Int) (hT : Tab wH) (hH : 0 < wH.heap.size) (h : Both wH.heap.size w0 g g2 fs lost c) (hc : c ≤ 1000) (hB : Below wH.heap.size wH w) (hw : Below w0.heap.size w0 w) :
    ∃ (E : Int) (P : PMsg), Calls Tryd.prog 37 #[.pointer (some ⟨g, 0, none⟩), .int .i64 i] w fun e w1 => ∃ m1 : Msg, e = .returned (.tuple #[m1.v, .int .i64 E]) ∧ m1.plain = P ∧ IsMsg w1 m1 ∧ Kept w0 w w1 ∧ ∀ w1', Below w1.heap.size w1 w1' →
      Calls Tryd.prog 70 #[.pointer (some ⟨g2, 0, none⟩), .int .i64 i] w1' fun e w2 => ∃ m2 : Msg, e = .returned (.tuple #[m2.v, .int .i64 E]) ∧ m2.plain = P ∧ IsMsg w2 m2 ∧ IsMsg w2 m1 ∧ Kept w0 w1' w2 ∧ Next wH.heap.size w w2 g g2 c := by
  have h0 := h
  obtain ⟨hHw, ⟨O, S, ks, F, cs, hb, hr, hF, hSO, hK, hcl⟩, hfew, hlen, hl⟩ := h
  have hb' := hb.after hw
  have hr' := hr.after hw
  have hHw' : wH.heap.size ≤ w.heap.size := Nat.le_trans hHw hw.size
  have hFl : F.length = fs.length := by rw [← hF]; simp
  by_cases hi : 0 ≤ i ∧ i < (fs.length : Int)
  · obtain ⟨j, rfl⟩ : ∃ j : Nat, i = (j : Int) := ⟨i.toNat, by omega⟩
    obtain ⟨f, l, hf, hfl, hl1⟩ := at_of hF (j := j) (by omega)
    have hll := hlen l (List.mem_of_getElem? hfl)
    obtain ⟨E, hE⟩ : ∃ E, dE ks l = E := ⟨_, rfl⟩
    obtain ⟨P, hP⟩ : ∃ P, (if E = 0 then unM l else PMsg.zero) = P := ⟨_, rfl⟩
    obtain ⟨n, hn⟩ : ∃ n, (if E = 0 then lost else lost + 1) = n := ⟨_, rfl⟩
    have hnl : n ≤ lost + 1 := by rw [← hn]; split <;> omega
    refine ⟨(E : Int), P, (bdeliver_ok j l w hb' hfl hll.2 (by omega) (hT.below hB hH) hH hHw' (by omega) hE hP hn).mono ?_⟩
    rintro e w1 ⟨m1, rfl, hm1, him1, hb1, hC1⟩
    refine ⟨m1, rfl, hm1, him1, Kept.chg hC1 hb.top, fun w1' hx => ?_⟩
    have hrx := (hr'.other hC1 fun k hk => (hSO k hk).2).after hx
    refine (rbdeliver_ok j l w1' hrx hf hl1 hll.2 (by omega) (by omega) (by rw [← dE_same hK]; exact hE) hP hn).mono ?_
    rintro e w2 ⟨m2, S', rfl, hm2, him2, hr2, hC2, hS2⟩
    have := Both.step (c := c + 1) hHw' hr' hSO hb' (hb1.after hx) (hC1.trans (Sub.refl _ _) (Chg.below hx)) (Sub.refl _ _) hr2 hC2 hS2 (by rw [← hF, map_erase]) hK (by omega) (by have := List.length_eraseIdx_le fs j; omega) (erase_len hlen) (by omega)
    exact ⟨m2, rfl, hm2, him2, hrx.msgIn (him1.after hx) hC2, Kept.chg hC2 (fun k hk => by have e : k = g2 := hk; rw [e]; exact hr.top g2 hr.gS), this.2, _, _, this.1⟩
  · refine ⟨1, Msg.zero.plain, (bdeliver_no i w hb' hi).mono ?_⟩
    rintro e w1 ⟨rfl, hb1⟩
    refine ⟨Msg.zero, rfl, rfl, isMsg_zero w1, Kept.below hb1, fun w1' hx => ?_⟩
    refine (rbdeliver_no i w1' ((hr'.after hb1).after hx) (by omega)).mono ?_
    rintro e w2 ⟨rfl, hb2⟩
    refine ⟨Msg.zero, rfl, rfl, isMsg_zero w2, isMsg_zero w2, Kept.below hb2, Next.same h0 hw ?_⟩
    exact (hb1.trans (hx.mono hb1.size)).trans (hb2.mono (Nat.le_trans hb1.size hx.size))
theorem look_both (i : Int) (hT : Tab wH) (hH : 0 < wH.heap.size) (h : Both wH.heap.size w g g2 fs lost c) (hB : Below wH.heap.size wH w) :
    ∃ (E : Int) (P : PMsg), Calls Tryd.prog 41 #[.pointer (some ⟨g, 0, none⟩), .int .i64 i] w fun e w1 => ∃ m1 : Msg, e = .returned (.tuple #[m1.v, .int .i64 E]) ∧ m1.plain = P ∧ IsMsg w1 m1 ∧ Below w.heap.size w w1 ∧ ∀ w1', Below w1.heap.size w1 w1' →
      Calls Tryd.prog 42 #[.pointer (some ⟨g2, 0, none⟩), .int .i64 i] w1' fun e w2 => ∃ m2 : Msg, e = .returned (.tuple #[m2.v, .int .i64 E]) ∧ m2.plain = P ∧ IsMsg w2 m2 ∧ Below w1'.heap.size w1' w2 := by
  obtain ⟨hHw, ⟨O, S, ks, F, cs, hb, hr, hF, hSO, hK, hcl⟩, hfew, hlen, hl⟩ := h
  have hFl : F.length = fs.length := by rw [← hF]; simp
  by_cases hi : 0 ≤ i ∧ i < (fs.length : Int)
  · obtain ⟨j, rfl⟩ : ∃ j : Nat, i = (j : Int) := ⟨i.toNat, by omega⟩
    obtain ⟨f, l, hf, hfl, hl1⟩ := at_of hF (j := j) (by omega)
    have hll := hlen l (List.mem_of_getElem? hfl)
    refine ⟨(unE l : Nat), unM l, (blook_ok j l w hb hfl hll.2 (by omega) (hT.below hB hH) (Nat.lt_of_lt_of_le hH hHw)).mono ?_⟩
    rintro e w1 ⟨m1, rfl, hm1, him1, hb1⟩
    refine ⟨m1, rfl, hm1, him1.1, hb1, fun w1' hx => ?_⟩
    refine (rblook_ok j l w1' ((hr.after hb1).after hx) hf hl1 hll.2).mono ?_
    rintro e w2 ⟨m2, rfl, hm2, him2, hb2⟩
    exact ⟨m2, rfl, hm2, him2, hb2⟩
  · refine ⟨1, Msg.zero.plain, (blook_no i w hb hi).mono ?_⟩
    rintro e w1 ⟨rfl, hb1⟩
    refine ⟨Msg.zero, rfl, rfl, isMsg_zero w1, hb1, fun w1' hx => ?_⟩
    refine (rblook_no i w1' ((hr.after hb1).after hx) (by omega)).mono ?_
    rintro e w2 ⟨rfl, hb2⟩
    exact ⟨Msg.zero, rfl, rfl, isMsg_zero w2, hb2⟩
end
end Go.Proofs.YtciolppoanfiaaaDoor
