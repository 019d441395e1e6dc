/- A node of a group hears a message. -/
import Derived.Test.YtbgdepaffgeinaaElNew
import Derived.Test.YtbgdepaffgeinaaElAnsQ
import Derived.Test.YtbgdepaffgeinaaElOnAskP
import Derived.Test.YtbgdepaffgeinaaEzPlain
namespace Go.Proofs.Ytbgdepaffgeinaa
open Go.RowKit
section
variable {H : Nat} {O : Nat → Prop} {b : Nat} {p : NP} {x : ND}
theorem onAsk_all (k f d : Int) (t i q : Nat) (c : Value) (ok : Bool) (D E : Value) (w : World) (h : NodeP H w O b p x) (hok : x.Ok) :
    Calls Try.prog 47 #[.pointer (some ⟨b, 0, none⟩), mval k f d t i q c ok D E] w fun e w' => ∃ v, e = .returned v ∧ Sent H w w' O b v (x.onAsk k f t i q) := by
  by_cases h1 : k = 1
  · subst h1
    exact onAsk_vote f d t i q c ok D E w h hok
  · by_cases h3 : k = 3
    · subst h3
      exact onAsk_pre f d t i q c ok D E w h hok
    · rw [onAsk_nil x k f t i q h1 h3]
      refine (onAsk_no k f d t i q c ok D E w h h1 h3).mono ?_
      rintro e w' ⟨rfl, hN, hb⟩
      exact ⟨_, rfl, Sent.none_ hN (Sub.refl _ _) (Chg.below hb)⟩
theorem onAns_all (k f d : Int) (t i q : Nat) (c : Value) (ok : Bool) (D E : Value) (w : World) (h : NodeP H w O b p x) (hok : x.Ok) (hyl : x.yes.length ≤ 10000) (ht : t < 4611686018427387904) :
    Calls Try.prog 48 #[.pointer (some ⟨b, 0, none⟩), mval k f d t i q c ok D E] w fun e w' => ∃ v, e = .returned v ∧ Sent H w w' O b v (x.onAnswer k f t ok) := by
  by_cases h2 : k = 2
  · subst h2
    exact onAns_real f d t i q c ok D E w h hok hyl ht
  · by_cases h4 : k = 4
    · subst h4
      exact onAns_pre f d t i q c ok D E w h hok hyl ht
    · refine (onAns_no k f d t i q c ok D E w h h2 h4).mono ?_
      rintro e w' ⟨v, he, -, hS, -⟩
      exact ⟨v, he, hS⟩
theorem ask_aft (k f d : Int) (t i q : Nat) (c : Value) (ok : Bool) (D E : Value) (w : World) (h : NodeP H w O b p x) (hok : x.Ok) (W : World) (hW : Aft w W) :
    Calls Try.prog 47 #[.pointer (some ⟨b, 0, none⟩), .agg #[.int .i64 k, .int .i64 f, .int .i64 d, .int .u64 (t : Int), .int .u64 (i : Int), .int .u64 (q : Int), c, .bool ok, D, E]] W fun e w' => ∃ v, e = .returned v ∧ Sent H w w' O b v (x.onAsk k f t i q) :=
  (onAsk_all k f d t i q c ok D E W (h.after hW) hok).mono fun _ _ ⟨v, he, hs⟩ => ⟨v, he, Sent.behind (Chg.below hW) (Sub.refl _ _) hs⟩
theorem ans_aft (k f d : Int) (t i q : Nat) (c : Value) (ok : Bool) (D E : Value) (w : World) (h : NodeP H w O b p x) (hok : x.Ok) (hyl : x.yes.length ≤ 10000) (ht : t < 4611686018427387904) (W : World) (hW : Aft w W) :
    Calls Try.prog 48 #[.pointer (some ⟨b, 0, none⟩), .agg #[.int .i64 k, .int .i64 f, .int .i64 d, .int .u64 (t : Int), .int .u64 (i : Int), .int .u64 (q : Int), c, .bool ok, D, E]] W fun e w' => ∃ v, e = .returned v ∧ Sent H w w' O b v (x.onAnswer k f t ok) :=
  (onAns_all k f d t i q c ok D E W (h.after hW) hok hyl ht).mono fun _ _ ⟨v, he, hs⟩ => ⟨v, he, Sent.behind (Chg.below hW) (Sub.refl _ _) hs⟩
/-- the ten cells of a message lie there -/
def MsgAt (W : World) (g : Nat) (k f d : Int) (t i q : Nat) (ok : Bool) : Prop :=
  W.cell? ⟨g, 0, none⟩ = some (.int .i64 k) ∧ W.cell? ⟨g, 1, none⟩ = some (.int .i64 f) ∧ W.cell? ⟨g, 2, none⟩ = some (.int .i64 d) ∧ W.cell? ⟨g, 3, none⟩ = some (.int .u64 (t : Int)) ∧ W.cell? ⟨g, 4, none⟩ = some (.int .u64 (i : Int)) ∧ W.cell? ⟨g, 5, none⟩ = some (.int .u64 (q : Int)) ∧ W.cell? ⟨g, 6, none⟩ = some (.int .u64 0) ∧ W.cell? ⟨g, 7, none⟩ = some (.bool ok) ∧ W.cell? ⟨g, 8, none⟩ = some (.slice none 0 0) ∧ W.cell? ⟨g, 9, none⟩ = some (.slice none 0 0)
theorem msgAt {W : World} {g : Nat} {k f d : Int} {t i q : Nat} {ok : Bool} (h : Blk W g 81 (mrow k f d t i q (.int .u64 0) ok (.slice none 0 0) (.slice none 0 0))) : MsgAt W g k f d t i q ok :=
  ⟨h.cell 0, h.cell 1, h.cell 2, h.cell 3, h.cell 4, h.cell 5, h.cell 6, h.cell 7, h.cell 8, h.cell 9⟩
/-- what a node sends at first, and then, in one row -/
theorem Sent.both {w w1 w2 w4 : World} {O1 : Nat → Prop} {v1 v4 : Value} {r1 r2 : ND × List Ms} (h : NodeP H w O b p x) (hs1 : Sub O w O1) (hc1 : Chg O w w1) (hr1 : w1.ownsRow w.heap.size 81 10 v1 r1.2.length (mcells r1.2)) (ha1 : ∀ k, v1.ownBlock = some k → ¬ O1 k)
    {p2 : NP} {O2 : Nat → Prop} (hN2 : NodeP H w2 O2 b p2 r2.1) (hs2 : Sub O1 w1 O2) (hc2 : Chg O1 w1 w2)
    (o4 : w4.ownsRow w.heap.size 81 10 v4 (r1.2.length + r2.2.length) (mcells r1.2 ++ mcells r2.2)) (g4 : w2.grownBy w4 v1.ownBlock) (a4 : v4.ownBlock = v1.ownBlock ∨ v4.ownBlock = some w2.heap.size) : Sent H w w4 O b v4 (r2.1, r1.2 ++ r2.2) := by
  have hv2 : ∀ k, v1.ownBlock = some k → ¬ O2 k := fun k hk hO => by
    rcases hs2 k hO with h | h
    · exact ha1 k hk h
    · have := (hr1.lt k hk).2; omega
  have hch : Chg O w w4 := ⟨g4.os.trans (hc1.trans hs1 hc2).os, g4.tape.trans (hc1.trans hs1 hc2).tape, g4.output.trans (hc1.trans hs1 hc2).output, Nat.le_trans (hc1.trans hs1 hc2).size g4.size, fun k hk hn =>
    (g4.block k (Nat.lt_of_lt_of_le hk (hc1.trans hs1 hc2).size) fun e => by have := (hr1.lt k e.symm).1; omega).trans ((hc1.trans hs1 hc2).block k hk hn)⟩
  refine ⟨p2, O2, hN2.other (O' := fun k => v1.ownBlock = some k) (Chg.grown g4 fun k e => .inl e) (fun k hk e => hv2 k e hk) (fun k e => Nat.le_trans h.size (hr1.lt k e).1), hs1.trans hs2 hc1.size, hch, ?_, ?_⟩
  · show World.ownsRow _ _ _ _ _ (r1.2 ++ r2.2).length (mcells (r1.2 ++ r2.2))
    rw [mcells_append, List.length_append]
    exact o4
  · intro k hk hO
    rcases a4 with e | e
    · exact hv2 k (e ▸ hk) hO
    · rw [e] at hk
      injection hk with hk
      have := hN2.top k hO
      omega
theorem nd_ok_ask (x : ND) (k f : Int) (t i q : Nat) (hok : x.Ok) (ht : t < 4611686018427387904) : (x.onAsk k f t i q).1.Ok ∧ (x.onAsk k f t i q).1.yes.length ≤ x.yes.length := by
  have hv : ∀ (y : ND) (nw : Bool), y.Ok → (y.onVote f t nw).1.Ok ∧ (y.onVote f t nw).1.yes.length ≤ y.yes.length := fun y nw hy => by
    unfold ND.onVote
    split
    · exact ⟨⟨hy.base, hy.es, hy.conf, hy.me0, hy.me16, hy.term⟩, Nat.le_refl _⟩
    · exact ⟨hy, Nat.le_refl _⟩
  unfold ND.onAsk
  split
  · split
    · have hf : (x.follow t (-1)).Ok := ⟨hok.base, hok.es, hok.conf, hok.me0, hok.me16, by show (if x.term < t then t else x.term) < 4611686018427387904; have := hok.term; split <;> omega⟩
      have := hv _ (x.newer q i) hf
      exact ⟨this.1, Nat.le_trans this.2 (Nat.zero_le _)⟩
    · exact hv x _ hok
  · split
    · exact ⟨hok, Nat.le_refl _⟩
    · exact ⟨hok, Nat.le_refl _⟩
end
end Go.Proofs.Ytbgdepaffgeinaa
