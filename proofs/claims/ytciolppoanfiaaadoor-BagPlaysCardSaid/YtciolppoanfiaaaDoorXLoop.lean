import Derived.Test.YtciolppoanfiaaaDoorXIter
import Derived.Test.YtciolppoanfiaaaDoorPWire2
namespace Go.Proofs.YtciolppoanfiaaaDoor
open Go.RowKit Go.Shelf

theorem en_info : (Tryd.prog.info? 85).map (fun i => (i.zero, i.size, i.bytes)) = some (some (.agg #[.int .u64 0, .int .i64 0, .slice none 0 0]), 3, 40) := by kernel_rfl
theorem ec_one (xs : List Ent) : ∀ u ∈ ecells xs, u.oneCell' = true := by
  induction xs with
  | nil => intro u hu; cases hu
  | cons e xs ih =>
    intro u hu
    simp only [ecells, List.mem_cons] at hu
    rcases hu with rfl | rfl | rfl | hu
    · rfl
    · rfl
    · rfl
    · exact ih u hu
theorem lit_cells (w : World) (t : TypeId) (a b c : Value) (g : Nat) (hg : w.heap.size = g) : ∀ j u, ([a, b, c] : List Value)[j]? = some u → (w.alloc (.cells #[a, b, c] t)).cell? ((⟨g, 0, none⟩ : Addr).add j) = some u := by
  subst hg
  intro j u hu
  have hadd : (⟨w.heap.size, 0, none⟩ : Addr).add j = ⟨w.heap.size, j, none⟩ := by unfold Addr.add; split <;> simp_all
  rw [hadd, (Blk.new w t #[a, b, c]).cell j]
  simpa using hu
theorem Kw.put {n₀ gm l : Nat} {W : World} {o : Obj} (o' : Obj) (hl : n₀ ≤ l) (h : W.heap[l]? = some o) (ho : o.isCells = false) : Kw n₀ gm W (W.putObj l o') :=
  Kw.of_grown (grownBy_putObj' W l o') (by have := (Array.getElem?_eq_some_iff.1 h).1; omega) (fun r e => by
    cases e
    refine ⟨.inl hl, fun cs fr hc => ?_⟩
    rw [h] at hc
    cases hc
    cases ho)
theorem U8.grown2 {w w' : World} {e : Ent} {row : Option Nat} (h : U8 w e) (hg : w.grownBy w' row) (hr : ∀ r, row = some r → ∀ ad, e.A = some ad → 0 < e.l.length → ad.block ≠ r) : U8 w' e := by
  obtain ⟨⟨lo, hi, A, c, he, hs⟩, h2⟩ := h
  injection he with e1 e2 e3
  subst e1 e3
  have hb : ∀ ad, e.A = some ad → 0 < e.l.length → w'.heap[ad.block]? = w.heap[ad.block]? := fun ad ha hn => by
    obtain ⟨cs, fr, hc⟩ := h2 ad ha hn
    exact hg.block _ (Array.getElem?_eq_some_iff.1 hc).1 (fun e' => hr _ e'.symm ad ha hn rfl)
  refine ⟨⟨lo, hi, e.A, e.c, rfl, hs.len, hs.cap, hs.max, fun hn => ?_⟩, fun ad ha hn => ?_⟩
  · obtain ⟨ad, ha, h3, h4, hc⟩ := hs.at_ hn
    exact ⟨ad, ha, h3, h4, fun j u hu => (World.cell?_of_block (by rw [block_of_add]; exact hb ad ha hn)).trans (hc j u hu)⟩
  · obtain ⟨cs, fr, hc⟩ := h2 ad ha hn
    exact ⟨cs, fr, (hb ad ha hn).trans hc⟩
/-- its bytes' block is above b -/
def U8.above (e : Ent) (b : Nat) : Prop := ∀ ad, e.A = some ad → 0 < e.l.length → b < ad.block
theorem U8.cellsObj {w : World} {e : Ent} (h : U8 w e) {r : Nat} {o : Obj} (ho : w.heap[r]? = some o) (hc : o.isCells = false) : ∀ ad, e.A = some ad → 0 < e.l.length → ad.block ≠ r := by
  intro ad ha hn e'
  obtain ⟨cs, fr, hb⟩ := h.2 ad ha hn
  rw [e', ho] at hb
  cases hb
  cases hc
theorem own_keepR {w w' : World} {base e size n : Nat} {v : Value} {xs : List Value} {row : Option Nat} (h : w.ownsRow base e size v n xs) (hg : w.grownBy w' row)
    (hr : ∀ r, row = some r → r < base ∨ ∃ o, w.heap[r]? = some o ∧ o.isCells = false) : w'.ownsRow base e size v n xs := by
  refine h.kept hg ?_
  rcases h.2 with ⟨rfl, _⟩ | ⟨g, cap, cur, rfl, hb, hh, _⟩
  · exact .inl rfl
  · refine .inr fun e' => ?_
    have e'' : row = some g := by rw [← e']; rfl
    rcases hr g e'' with h1 | ⟨o, ho, hc⟩
    · omega
    · rw [hh] at ho
      cases ho
      cases hc
/-- appending onto a row of entries turns its own block alone, and that is no block of bytes -/
theorem Kw.own {w w' : World} {base n n₀ gm : Nat} {v : Value} {xs : List Value} (h : w.ownsRow base 85 3 v n xs) (hg : w.grownBy w' v.ownBlock) (hb : n₀ ≤ base) (hn : n₀ ≤ w.heap.size) : Kw n₀ gm w w' := by
  refine Kw.of_grown hg hn fun r e => ?_
  rcases h.2 with ⟨rfl, _⟩ | ⟨g, cap, cur, rfl, hb', hh, _⟩
  · cases e
  · have e' : g = r := by simpa [Value.ownBlock] using e
    subst e'
    refine ⟨.inl (by omega), fun cs fr hc => ?_⟩
    rw [hh] at hc
    cases hc
theorem KeepsOthers.own {w w' : World} {base e size n : Nat} {v : Value} {xs : List Value} (h : w.ownsRow base e size v n xs) (hg : w.grownBy w' v.ownBlock) : KeepsOthers w w' := by
  refine KeepsOthers.of_grownBy hg fun r o er ho => ?_
  rcases h.2 with ⟨rfl, _⟩ | ⟨g, cap, cur, rfl, hb', hh, _⟩
  · cases er
  · have e' : g = r := by simpa [Value.ownBlock] using er
    subst e'
    rw [hh] at ho
    cases ho
    rfl
theorem U8.data {w : World} {e : Ent} (h : U8 w e) : Bytes w (.slice e.A e.l.length e.c) e.l := h.1
theorem U8.notMsg {w : World} {e : Ent} (h : U8 w e) {g : Nat} {cs : Array Value} (hb : Blk w g 41 cs) : ∀ ad, e.A = some ad → 0 < e.l.length → ad.block ≠ g := by
  intro ad ha hn e'
  obtain ⟨cs', fr, hc⟩ := h.2 ad ha hn
  unfold Blk at hb
  rw [e', hb] at hc
  cases hc
theorem Blk.not_u8m {w : World} {g : Nat} {cs : Array Value} (h : Blk w g 41 cs) : ∀ cs fr, w.heap[g]? ≠ some (Obj.cells cs 5 fr) := by
  intro cs fr e
  unfold Blk at h
  rw [h] at e
  cases e
theorem msg_set {W : World} {g : Nat} {a0 a1 a2 a3 a4 a5 a6 a7 a8 a9 : Value} (h : Blk W g 41 #[a0, a1, a2, a3, a4, a5, a6, a7, a8, a9]) (u0 u1 u2 u3 u4 u5 u6 u7 u8 u9 : Value) :
    W.grownBy ((((((((((W.setCell ⟨g, 0, none⟩ u0).setCell ⟨g, 1, none⟩ u1).setCell ⟨g, 2, none⟩ u2).setCell ⟨g, 3, none⟩ u3).setCell ⟨g, 4, none⟩ u4).setCell ⟨g, 5, none⟩ u5).setCell ⟨g, 6, none⟩ u6).setCell ⟨g, 7, none⟩ u7).setCell ⟨g, 8, none⟩ u8).setCell ⟨g, 9, none⟩ u9) (some g) ∧ Blk ((((((((((W.setCell ⟨g, 0, none⟩ u0).setCell ⟨g, 1, none⟩ u1).setCell ⟨g, 2, none⟩ u2).setCell ⟨g, 3, none⟩ u3).setCell ⟨g, 4, none⟩ u4).setCell ⟨g, 5, none⟩ u5).setCell ⟨g, 6, none⟩ u6).setCell ⟨g, 7, none⟩ u7).setCell ⟨g, 8, none⟩ u8).setCell ⟨g, 9, none⟩ u9) g 41 #[u0, u1, u2, u3, u4, u5, u6, u7, u8, u9] ∧ KeepsOthers W ((((((((((W.setCell ⟨g, 0, none⟩ u0).setCell ⟨g, 1, none⟩ u1).setCell ⟨g, 2, none⟩ u2).setCell ⟨g, 3, none⟩ u3).setCell ⟨g, 4, none⟩ u4).setCell ⟨g, 5, none⟩ u5).setCell ⟨g, 6, none⟩ u6).setCell ⟨g, 7, none⟩ u7).setCell ⟨g, 8, none⟩ u8).setCell ⟨g, 9, none⟩ u9) ∧ Kw 0 g W ((((((((((W.setCell ⟨g, 0, none⟩ u0).setCell ⟨g, 1, none⟩ u1).setCell ⟨g, 2, none⟩ u2).setCell ⟨g, 3, none⟩ u3).setCell ⟨g, 4, none⟩ u4).setCell ⟨g, 5, none⟩ u5).setCell ⟨g, 6, none⟩ u6).setCell ⟨g, 7, none⟩ u7).setCell ⟨g, 8, none⟩ u8).setCell ⟨g, 9, none⟩ u9) := by
  have hg : W.grownBy ((((((((((W.setCell ⟨g, 0, none⟩ u0).setCell ⟨g, 1, none⟩ u1).setCell ⟨g, 2, none⟩ u2).setCell ⟨g, 3, none⟩ u3).setCell ⟨g, 4, none⟩ u4).setCell ⟨g, 5, none⟩ u5).setCell ⟨g, 6, none⟩ u6).setCell ⟨g, 7, none⟩ u7).setCell ⟨g, 8, none⟩ u8).setCell ⟨g, 9, none⟩ u9) (some g) := only_setCell (only_setCell (only_setCell (only_setCell (only_setCell (only_setCell (only_setCell (only_setCell (only_setCell (only_setCell (World.grownBy.refl W (some g)) 0 u0) 1 u1) 2 u2) 3 u3) 4 u4) 5 u5) 6 u6) 7 u7) 8 u8) 9 u9
  have h0 : Blk (W.setCell ⟨g, 0, none⟩ u0) g 41 #[u0, a1, a2, a3, a4, a5, a6, a7, a8, a9] := h.set_ 0 u0
  have h1 : Blk ((W.setCell ⟨g, 0, none⟩ u0).setCell ⟨g, 1, none⟩ u1) g 41 #[u0, u1, a2, a3, a4, a5, a6, a7, a8, a9] := h0.set_ 1 u1
  have h2 : Blk (((W.setCell ⟨g, 0, none⟩ u0).setCell ⟨g, 1, none⟩ u1).setCell ⟨g, 2, none⟩ u2) g 41 #[u0, u1, u2, a3, a4, a5, a6, a7, a8, a9] := h1.set_ 2 u2
  have h3 : Blk ((((W.setCell ⟨g, 0, none⟩ u0).setCell ⟨g, 1, none⟩ u1).setCell ⟨g, 2, none⟩ u2).setCell ⟨g, 3, none⟩ u3) g 41 #[u0, u1, u2, u3, a4, a5, a6, a7, a8, a9] := h2.set_ 3 u3
  have h4 : Blk (((((W.setCell ⟨g, 0, none⟩ u0).setCell ⟨g, 1, none⟩ u1).setCell ⟨g, 2, none⟩ u2).setCell ⟨g, 3, none⟩ u3).setCell ⟨g, 4, none⟩ u4) g 41 #[u0, u1, u2, u3, u4, a5, a6, a7, a8, a9] := h3.set_ 4 u4
  have h5 : Blk ((((((W.setCell ⟨g, 0, none⟩ u0).setCell ⟨g, 1, none⟩ u1).setCell ⟨g, 2, none⟩ u2).setCell ⟨g, 3, none⟩ u3).setCell ⟨g, 4, none⟩ u4).setCell ⟨g, 5, none⟩ u5) g 41 #[u0, u1, u2, u3, u4, u5, a6, a7, a8, a9] := h4.set_ 5 u5
  have h6 : Blk (((((((W.setCell ⟨g, 0, none⟩ u0).setCell ⟨g, 1, none⟩ u1).setCell ⟨g, 2, none⟩ u2).setCell ⟨g, 3, none⟩ u3).setCell ⟨g, 4, none⟩ u4).setCell ⟨g, 5, none⟩ u5).setCell ⟨g, 6, none⟩ u6) g 41 #[u0, u1, u2, u3, u4, u5, u6, a7, a8, a9] := h5.set_ 6 u6
  have h7 : Blk ((((((((W.setCell ⟨g, 0, none⟩ u0).setCell ⟨g, 1, none⟩ u1).setCell ⟨g, 2, none⟩ u2).setCell ⟨g, 3, none⟩ u3).setCell ⟨g, 4, none⟩ u4).setCell ⟨g, 5, none⟩ u5).setCell ⟨g, 6, none⟩ u6).setCell ⟨g, 7, none⟩ u7) g 41 #[u0, u1, u2, u3, u4, u5, u6, u7, a8, a9] := h6.set_ 7 u7
  have h8 : Blk (((((((((W.setCell ⟨g, 0, none⟩ u0).setCell ⟨g, 1, none⟩ u1).setCell ⟨g, 2, none⟩ u2).setCell ⟨g, 3, none⟩ u3).setCell ⟨g, 4, none⟩ u4).setCell ⟨g, 5, none⟩ u5).setCell ⟨g, 6, none⟩ u6).setCell ⟨g, 7, none⟩ u7).setCell ⟨g, 8, none⟩ u8) g 41 #[u0, u1, u2, u3, u4, u5, u6, u7, u8, a9] := h7.set_ 8 u8
  have h9 : Blk ((((((((((W.setCell ⟨g, 0, none⟩ u0).setCell ⟨g, 1, none⟩ u1).setCell ⟨g, 2, none⟩ u2).setCell ⟨g, 3, none⟩ u3).setCell ⟨g, 4, none⟩ u4).setCell ⟨g, 5, none⟩ u5).setCell ⟨g, 6, none⟩ u6).setCell ⟨g, 7, none⟩ u7).setCell ⟨g, 8, none⟩ u8).setCell ⟨g, 9, none⟩ u9) g 41 #[u0, u1, u2, u3, u4, u5, u6, u7, u8, u9] := h8.set_ 9 u9
  exact ⟨hg, h9, ((((((((((KeepsOthers.refl W).trans (KeepsOthers.setCell _ _ _)).trans (KeepsOthers.setCell _ _ _)).trans (KeepsOthers.setCell _ _ _)).trans (KeepsOthers.setCell _ _ _)).trans (KeepsOthers.setCell _ _ _)).trans (KeepsOthers.setCell _ _ _)).trans (KeepsOthers.setCell _ _ _)).trans (KeepsOthers.setCell _ _ _)).trans (KeepsOthers.setCell _ _ _)).trans (KeepsOthers.setCell _ _ _), Kw.of_grown hg (Nat.zero_le _) (fun r e => by cases e; exact ⟨.inr rfl, h.not_u8m⟩)⟩
theorem Bytes.len63 {w : World} {A : Option Addr} {n c : Nat} {l : List UInt8} (h : Bytes w (.slice A n c) l) : n ≤ 9223372036854775807 := by
  obtain ⟨lo, hi, A', c', e, hs⟩ := h
  injection e with e1 e2 e3
  have := hs.cap
  have := hs.max
  omega
/-- the message stays where a block of messages from hi on turns -/
def MsgK (hi : Nat) (w : World) (m : Msg) : Prop := ∀ (R : Nat) (cs : Array Value) (w2 : World), hi ≤ R → Blk w R 41 cs → w.grownBy w2 (some R) → IsMsg w2 m
def IsMsgK (hi : Nat) (w : World) (m : Msg) : Prop := IsMsg w m ∧ MsgK hi w m
theorem isMsg_zero (w : World) : IsMsg w Msg.zero := ⟨⟨0, 0, Sl.nil_ _ _ _ _⟩, ⟨0, 0, Sl.nil_ _ _ _ _⟩, fun e he => by cases he⟩
theorem isMsg_make {w : World} {k f t : Int} {te ix pr co : Nat} {ok : Bool} {dA : Option Addr} {dc : Nat} {d : List UInt8} {eA : Option Addr} {ec base : Nat} {es : List Ent} (hd : U8 w ⟨0, 0, dA, dc, d⟩) (he : w.ownsRow base 85 3 (.slice eA es.length ec) es.length (ecells es)) (hu : ∀ x ∈ es, U8 w x) :
    IsMsg w ⟨k, f, t, te, ix, pr, co, ok, dA, dc, d, eA, ec, es⟩ := by
  refine ⟨?_, ?_, fun x hx => (hu x hx).1⟩
  · obtain ⟨⟨lo, hi, A, c, e1, hs⟩, _⟩ := hd
    injection e1 with e2 e3 e4
    subst e2 e4
    exact ⟨lo, hi, hs⟩
  · obtain ⟨A, c, e1, hs⟩ := own_sl he
    injection e1 with e2 e3 e4
    subst e2 e4
    exact ⟨_, _, hs⟩
theorem isMsgK_zero (hi : Nat) (w : World) : IsMsgK hi w Msg.zero := ⟨isMsg_zero w, fun _ _ w2 _ _ _ => isMsg_zero w2⟩
theorem own_notMsg {w w2 : World} {base n R : Nat} {v : Value} {xs : List Value} {cs : Array Value} (h : w.ownsRow base 85 3 v n xs) (hb : Blk w R 41 cs) (hg : w.grownBy w2 (some R)) : w2.ownsRow base 85 3 v n xs := by
  refine h.kept hg ?_
  rcases h.2 with ⟨rfl, _⟩ | ⟨g, cap, cur, rfl, _, hh, _⟩
  · exact .inl rfl
  · refine .inr fun e => ?_
    have e' : g = R := by simpa [Value.ownBlock] using e
    subst e'
    unfold Blk at hb
    rw [hh] at hb
    cases hb
theorem isMsgK_make {w : World} {k f t : Int} {te ix pr co : Nat} {ok : Bool} {dA : Option Addr} {dc : Nat} {d : List UInt8} {eA : Option Addr} {ec base : Nat} {es : List Ent} (hi : Nat) (hd : U8 w ⟨0, 0, dA, dc, d⟩) (he : w.ownsRow base 85 3 (.slice eA es.length ec) es.length (ecells es)) (hu : ∀ x ∈ es, U8 w x) :
    IsMsgK hi w ⟨k, f, t, te, ix, pr, co, ok, dA, dc, d, eA, ec, es⟩ :=
  ⟨isMsg_make hd he hu, fun _ _ _ _ hb hg => isMsg_make (hd.grown2 hg (fun r e ad ha hn => by cases e; exact hd.notMsg hb ad ha hn)) (own_notMsg he hb hg) (fun x hx => (hu x hx).grown2 hg (fun r e ad ha hn => by cases e; exact (hu x hx).notMsg hb ad ha hn))⟩
theorem isMsg_ref {w : World} {k f t : Int} {te ix pr co : Nat} {ok : Bool} {dA : Option Addr} {dc : Nat} {d : List UInt8} {eA : Option Addr} {ec base hi : Nat} {es : List Ent} (hd : Sl w 0 hi 1 dA d.length dc (d.map bv)) (he : w.ownsRow base 85 3 (.slice eA es.length ec) es.length (ecells es)) (hu : ∀ x ∈ es, Sl w 0 hi 1 x.A x.l.length x.c (x.l.map bv)) :
    IsMsg w ⟨k, f, t, te, ix, pr, co, ok, dA, dc, d, eA, ec, es⟩ := by
  refine ⟨⟨_, _, hd⟩, ?_, fun x hx => (hu x hx).bytes⟩
  obtain ⟨Ax, cx, ex, hsx⟩ := own_sl he
  injection ex with ex1 _ ex2
  subst ex1 ex2
  exact ⟨_, _, hsx⟩
theorem isMsgK_ref {w : World} {k f t : Int} {te ix pr co : Nat} {ok : Bool} {dA : Option Addr} {dc : Nat} {d : List UInt8} {eA : Option Addr} {ec base hi : Nat} {es : List Ent} (hd : Sl w 0 hi 1 dA d.length dc (d.map bv)) (he : w.ownsRow base 85 3 (.slice eA es.length ec) es.length (ecells es)) (hu : ∀ x ∈ es, Sl w 0 hi 1 x.A x.l.length x.c (x.l.map bv)) :
    IsMsgK hi w ⟨k, f, t, te, ix, pr, co, ok, dA, dc, d, eA, ec, es⟩ :=
  ⟨isMsg_ref hd he hu, fun R cs w2 hR hb hg => isMsg_ref (hd.grown (by decide) hg (fun r e => by cases e; exact .inr hR)) (own_notMsg he hb hg) (fun x hx => (hu x hx).grown (by decide) hg (fun r e => by cases e; exact .inr hR))⟩
theorem U8.above_own {w : World} {e : Ent} {base n b : Nat} (h : w.ownsRow base 5 1 (.slice e.A e.l.length e.c) n (e.l.map bv)) (hb : b < base) : U8.above e b := by
  intro ad ha hn
  obtain ⟨A, c, h1, h2⟩ := own_sl h
  injection h1 with h3 h4 h5
  obtain ⟨ad', ha', h6, _, _⟩ := h2.at_ (by omega)
  rw [← h3, ha] at ha'
  cases ha'
  omega
/-- blocks of bytes and of entries are as they were -/
def KeepT (w w2 : World) : Prop := w.heap.size ≤ w2.heap.size ∧ ∀ (k : Nat) (cs : Array Value) (fr : Nat × Nat), (w.heap[k]? = some (.cells cs 5 fr) ∨ w.heap[k]? = some (.cells cs 85 fr)) → w2.heap[k]? = w.heap[k]?
theorem KeepT.trans {a b c : World} (h : KeepT a b) (k : KeepT b c) : KeepT a c :=
  ⟨Nat.le_trans h.1 k.1, fun i cs fr hi => by have e := h.2 i cs fr hi; exact (k.2 i cs fr (by rw [e]; exact hi)).trans e⟩
theorem KeepT.grown {w w2 : World} {r : Option Nat} (hg : w.grownBy w2 r) (hr : ∀ b, r = some b → ∀ cs fr, w.heap[b]? ≠ some (.cells cs 5 fr) ∧ w.heap[b]? ≠ some (.cells cs 85 fr)) : KeepT w w2 :=
  ⟨hg.size, fun k cs fr hk => hg.block k (by rcases hk with h | h <;> exact (Array.getElem?_eq_some_iff.1 h).1) (fun e => by rcases hk with h | h; exact (hr k e.symm cs fr).1 h; exact (hr k e.symm cs fr).2 h)⟩
theorem KeepT.below {w w2 : World} (h : Below w.heap.size w w2) : KeepT w w2 := ⟨h.size, fun k cs fr hk => h.block k (by rcases hk with h | h <;> exact (Array.getElem?_eq_some_iff.1 h).1)⟩
theorem KeepT.blk {w w2 : World} {R : Nat} {t : TypeId} {cs : Array Value} (h : Blk w R t cs) (h1 : t ≠ 5) (h2 : t ≠ 85) (hg : w.grownBy w2 (some R)) : KeepT w w2 :=
  KeepT.grown hg fun b e cs' fr => by
    cases e
    unfold Blk at h
    rw [h]
    exact ⟨fun e => by injection e with e; injection e with e1 e2; exact h1 e2, fun e => by injection e with e; injection e with e1 e2; exact h2 e2⟩
def IsMsgT (w : World) (m : Msg) : Prop := IsMsg w m ∧ ∀ w2, KeepT w w2 → IsMsg w2 m
theorem IsMsgT.keep {w w2 : World} {m : Msg} (h : IsMsgT w m) (hk : KeepT w w2) : IsMsgT w2 m := ⟨h.2 w2 hk, fun w3 h3 => h.2 w3 (hk.trans h3)⟩
theorem isMsgT_zero (w : World) : IsMsgT w Msg.zero := ⟨isMsg_zero w, fun w2 _ => isMsg_zero w2⟩
theorem isMsgT_make {w : World} {k f t : Int} {te ix pr co : Nat} {ok : Bool} {dA : Option Addr} {dc : Nat} {d : List UInt8} {eA : Option Addr} {ec base : Nat} {es : List Ent} (hd : U8 w ⟨0, 0, dA, dc, d⟩) (he : w.ownsRow base 85 3 (.slice eA es.length ec) es.length (ecells es)) (hu : ∀ x ∈ es, U8 w x) :
    IsMsgT w ⟨k, f, t, te, ix, pr, co, ok, dA, dc, d, eA, ec, es⟩ := by
  refine ⟨isMsg_make hd he hu, fun w2 hk => isMsg_make (base := base) (hd.keep fun k cs fr h => hk.2 k cs fr (.inl h)) ?_ (fun x hx => (hu x hx).keep fun k cs fr h => hk.2 k cs fr (.inl h))⟩
  rcases he.2 with hn | ⟨b, cap, cur, hv, h1, h2, rest⟩
  · exact ⟨he.1, .inl hn⟩
  · exact ⟨he.1, .inr ⟨b, cap, cur, hv, h1, (hk.2 b _ _ (.inr h2)).trans h2, rest⟩⟩
end Go.Proofs.YtciolppoanfiaaaDoor
