/- A node that asks, in memory. -/
import Derived.Test.YtbgdepaffgeinaaElKit
import Derived.Test.YtbgdepaffgeinaaPElect
namespace Go.Proofs.Ytbgdepaffgeinaa
open Go.RowKit
def iv (i : Int) : Value := .int .i64 i
def uv (n : Nat) : Value := .int .u64 (n : Int)
theorem iv_one (xs : List Int) : ∀ u ∈ xs.map iv, u.oneCell' = true := by
  intro u hu
  obtain ⟨i, -, rfl⟩ := List.mem_map.1 hu
  rfl
theorem uv_one (xs : List Nat) : ∀ u ∈ xs.map uv, u.oneCell' = true := by
  intro u hu
  obtain ⟨i, -, rfl⟩ := List.mem_map.1 hu
  rfl
structure NP where
  cA : Option Addr
  cc : Nat
  yv : Value
  eA : Option Addr
  ec : Nat
  er : Nat
  nv : Value
  mv : Value
def NP.cv (p : NP) (x : ND) : Value := .slice p.cA x.conf.length p.cc
def NP.cells (p : NP) (x : ND) : Array Value := #[.int .i64 x.me, .int .i64 x.vote, .int .i64 x.role, .int .i64 x.lead, .slice p.cA x.conf.length p.cc, p.yv, .int .u64 (x.term : Int), .int .u64 0, .int .u64 (x.base : Int), .int .u64 (x.bt : Int), .slice p.eA x.es.length p.ec, .bool x.heard, p.nv, p.mv]
def NP.W (p : NP) (b : Nat) : Nat → Prop := fun k => k = b ∨ p.yv.ownBlock = some k ∨ p.nv.ownBlock = some k ∨ p.mv.ownBlock = some k
structure NodeP (H : Nat) (w : World) (O : Nat → Prop) (b : Nat) (p : NP) (x : ND) : Prop where
  low : ∀ k, O k → H ≤ k
  top : ∀ k, O k → k < w.heap.size
  bO : O b
  blk : Blk w b 75 (p.cells x)
  conf : w.ownsRow 0 3 1 (p.cv x) x.conf.length (x.conf.map iv)
  confO : ∀ k, (p.cv x).ownBlock = some k → O k ∧ p.yv.ownBlock ≠ some k
  yes : w.ownsRow 0 3 1 p.yv x.yes.length (x.yes.map iv)
  yesO : ∀ k, p.yv.ownBlock = some k → O k
  next : w.ownsRow 0 22 1 p.nv 16 (x.next.map uv)
  nextO : ∀ k, p.nv.ownBlock = some k → O k ∧ p.mv.ownBlock ≠ some k
  mt : w.ownsRow 0 22 1 p.mv 16 (x.mt.map uv)
  mtO : ∀ k, p.mv.ownBlock = some k → O k
  es : Sl w p.er (p.er + 1) 3 p.eA x.es.length p.ec (ecells x.es)
  esO : 0 < x.es.length → (p.er < H ∨ O p.er) ∧ ¬ p.W b p.er
/-- a slice whose block, if it has cells, is as it was -/
theorem Sl.stay {w w1 : World} {r size n c : Nat} {A : Option Addr} {xs : List Value} (h : Sl w r (r + 1) size A n c xs) (hk : 0 < n → w1.heap[r]? = w.heap[r]?) : Sl w1 r (r + 1) size A n c xs :=
  ⟨h.len, h.cap, h.max, fun hn => by
    obtain ⟨ad, e, hl, hh, hc⟩ := h.at_ hn
    have hr : ad.block = r := by omega
    exact ⟨ad, e, hl, hh, fun j u hu => (World.cell?_of_block (by rw [block_of_add, hr]; exact hk hn)).trans (hc j u hu)⟩⟩
section
variable {H : Nat} {w w1 : World} {O : Nat → Prop} {b : Nat} {p : NP} {x : ND}
theorem NodeP.size (h : NodeP H w O b p x) : H ≤ w.heap.size := Nat.le_trans (h.low b h.bO) (Nat.le_of_lt h.blk.lt)
theorem NodeP.keep (h : NodeP H w O b p x) (hO : ∀ k, O k → w1.heap[k]? = w.heap[k]?) (hH : ∀ k, k < H → w1.heap[k]? = w.heap[k]?) (hs : w.heap.size ≤ w1.heap.size) : NodeP H w1 O b p x :=
  ⟨h.low, fun k hk => Nat.lt_of_lt_of_le (h.top k hk) hs, h.bO, (hO b h.bO).trans h.blk, own_same h.conf fun k hk => hO k (h.confO k hk).1, h.confO, own_same h.yes fun k hk => hO k (h.yesO k hk), h.yesO,
    own_same h.next fun k hk => hO k (h.nextO k hk).1, h.nextO, own_same h.mt fun k hk => hO k (h.mtO k hk), h.mtO, h.es.stay fun hn => (h.esO hn).1.elim (hH _) (hO _), h.esO⟩
theorem NodeP.after (h : NodeP H w O b p x) (hb : Below w.heap.size w w1) : NodeP H w1 O b p x := h.keep (fun k hk => hb.block k (h.top k hk)) (fun k hk => hb.block k (Nat.lt_of_lt_of_le hk h.size)) hb.size
theorem NodeP.alloc (h : NodeP H w O b p x) (o : Obj) : NodeP H (w.alloc o) O b p x := h.after ((Below.refl _ w).alloc (Nat.le_refl _) o)
theorem NodeP.drewN (h : NodeP H w O b p x) (q : Nat) : NodeP H (w.drewN q) O b p x := h.keep (fun _ _ => rfl) (fun _ _ => rfl) (Nat.le_refl _)
theorem NodeP.other {O' : Nat → Prop} (h : NodeP H w O b p x) (hc : Chg O' w w1) (hd : ∀ k, O k → ¬ O' k) (hl : ∀ k, O' k → H ≤ k) : NodeP H w1 O b p x :=
  h.keep (fun k hk => hc.block k (h.top k hk) (hd k hk)) (fun k hk => hc.block k (Nat.lt_of_lt_of_le hk h.size) fun h' => by have := hl k h'; omega) hc.size
theorem NodeP.W_sub (h : NodeP H w O b p x) : ∀ k, p.W b k → O k := by
  rintro k (rfl | hk | hk | hk)
  · exact h.bO
  · exact h.yesO k hk
  · exact (h.nextO k hk).1
  · exact h.mtO k hk
/-- a node turns: of the older blocks only those change that are written at all -/
theorem NodeP.upd {p' : NP} {x' : ND} (h : NodeP H w O b p x) (O' : Nat → Prop) (hOO : ∀ k, O k → O' k) (hlow : ∀ k, O' k → H ≤ k) (htop : ∀ k, O' k → k < w1.heap.size)
    (hc : Chg (p.W b) w w1) (hb : Blk w1 b 75 (p'.cells x')) (hcv : p'.cv x' = p.cv x) (hconf : x'.conf = x.conf)
    (hy : w1.ownsRow 0 3 1 p'.yv x'.yes.length (x'.yes.map iv)) (hy' : p'.yv.ownBlock = p.yv.ownBlock ∨ ∀ k, p'.yv.ownBlock = some k → w.heap.size ≤ k ∧ O' k)
    (hnv : p'.nv = p.nv) (hn : w1.ownsRow 0 22 1 p.nv 16 (x'.next.map uv)) (hmv : p'.mv = p.mv) (hm : w1.ownsRow 0 22 1 p.mv 16 (x'.mt.map uv))
    (he : (p'.eA = p.eA ∧ p'.ec = p.ec ∧ p'.er = p.er ∧ x'.es = x.es) ∨ (w.heap.size ≤ p'.er ∧ O' p'.er ∧ p'.yv.ownBlock ≠ some p'.er ∧ Sl w1 p'.er (p'.er + 1) 3 p'.eA x'.es.length p'.ec (ecells x'.es))) :
    NodeP H w1 O' b p' x' := by
  have hH := h.size
  refine ⟨hlow, htop, hOO b h.bO, hb, ?_, ?_, hy, ?_, by rw [hnv]; exact hn, ?_, by rw [hmv]; exact hm, ?_, ?_, ?_⟩
  · rw [hcv, hconf]
    refine own_chg h.conf hc fun k hk hw => ?_
    rcases hw with rfl | hw | hw | hw
    · exact row_ne h.conf h.blk (by decide) hk
    · exact (h.confO k hk).2 hw
    · exact row_ne_row h.conf h.next (by decide) k hk hw
    · exact row_ne_row h.conf h.mt (by decide) k hk hw
  · intro k hk
    rw [hcv] at hk
    refine ⟨hOO k (h.confO k hk).1, fun hw => ?_⟩
    rcases hy' with e | e
    · exact (h.confO k hk).2 (e ▸ hw)
    · have := (e k hw).1
      have := (h.conf.lt k hk).2
      omega
  · intro k hk
    rcases hy' with e | e
    · exact hOO k (h.yesO k (e ▸ hk))
    · exact (e k hk).2
  · intro k hk
    rw [hnv] at hk
    rw [hmv]
    exact ⟨hOO k (h.nextO k hk).1, (h.nextO k hk).2⟩
  · intro k hk
    rw [hmv] at hk
    exact hOO k (h.mtO k hk)
  · rcases he with ⟨e1, e2, e3, e4⟩ | ⟨_, _, _, h4⟩
    · rw [e1, e2, e3, e4]
      refine h.es.stay fun hn => ?_
      have he := h.esO hn
      have hlt : p.er < w.heap.size := he.1.elim (fun h => by omega) (h.top _)
      exact hc.block _ hlt he.2
    · exact h4
  · intro hn
    rcases he with ⟨e1, e2, e3, e4⟩ | ⟨h1, h2, h3, h4⟩
    · rw [e4] at hn
      have he := h.esO hn
      have hlt : p.er < w.heap.size := he.1.elim (fun h => by omega) (h.top _)
      rw [e3]
      refine ⟨he.1.elim .inl fun h => .inr (hOO _ h), ?_⟩
      rintro (hw | hw | hw | hw)
      · exact he.2 (.inl hw)
      · rcases hy' with e | e
        · exact he.2 (.inr (.inl (e ▸ hw)))
        · have := (e _ hw).1; omega
      · exact he.2 (.inr (.inr (.inl (hnv ▸ hw))))
      · exact he.2 (.inr (.inr (.inr (hmv ▸ hw))))
    · refine ⟨.inr h2, ?_⟩
      rintro (hw | hw | hw | hw)
      · have := h.blk.lt; omega
      · exact h3 hw
      · rw [hnv] at hw
        have := (h.next.lt _ hw).2; omega
      · rw [hmv] at hw
        have := (h.mt.lt _ hw).2; omega
/-- only the node's own block is written, its parts stay -/
theorem NodeP.put {x' : ND} (h : NodeP H w O b p x) (hg : w.grownBy w1 (some b)) (hb : Blk w1 b 75 (p.cells x')) (hconf : x'.conf = x.conf) (hyes : x'.yes = x.yes) (hn : x'.next = x.next) (hm : x'.mt = x.mt) (he : x'.es = x.es) : NodeP H w1 O b p x' := by
  have hc : Chg (p.W b) w w1 := Chg.grown hg fun k e => by cases e; exact .inl (.inl rfl)
  have far : ∀ {size n : Nat} {e : TypeId} {v : Value} {xs : List Value}, 75 ≠ e → w.ownsRow 0 e size v n xs → w1.ownsRow 0 e size v n xs := fun ht hr => hr.kept hg (.inr (row_ne hr h.blk ht))
  exact h.upd O (fun _ h => h) h.low (fun k hk => Nat.lt_of_lt_of_le (h.top k hk) hc.size) hc hb (by unfold NP.cv; rw [hconf]) hconf (by rw [hyes]; exact far (by decide) h.yes) (.inl rfl) rfl (by rw [hn]; exact far (by decide) h.next) rfl (by rw [hm]; exact far (by decide) h.mt) (.inl ⟨rfl, rfl, rfl, he⟩)
/-- its yes are nobody -/
theorem NodeP.nobody {x' : ND} (h : NodeP H w O b p x) (hg : w.grownBy w1 (some b)) (hb : Blk w1 b 75 (NP.cells { p with yv := .slice none 0 0 } x')) (hconf : x'.conf = x.conf) (hyes : x'.yes = []) (hn : x'.next = x.next) (hm : x'.mt = x.mt) (he : x'.es = x.es) : NodeP H w1 O b { p with yv := .slice none 0 0 } x' := by
  have hc : Chg (p.W b) w w1 := Chg.grown hg fun k e => by cases e; exact .inl (.inl rfl)
  have far : ∀ {size n : Nat} {e : TypeId} {v : Value} {xs : List Value}, 75 ≠ e → w.ownsRow 0 e size v n xs → w1.ownsRow 0 e size v n xs := fun ht hr => hr.kept hg (.inr (row_ne hr h.blk ht))
  exact h.upd O (fun _ h => h) h.low (fun k hk => Nat.lt_of_lt_of_le (h.top k hk) hc.size) hc hb (by unfold NP.cv; rw [hconf]) hconf (by rw [hyes]; exact World.ownsRow_nil _ _ _ _) (.inr fun k hk => by cases hk) rfl (by rw [hn]; exact far (by decide) h.next) rfl (by rw [hm]; exact far (by decide) h.mt) (.inl ⟨rfl, rfl, rfl, he⟩)
end
end Go.Proofs.Ytbgdepaffgeinaa
