/- The document's node that asks, in memory; a new one. -/
import Derived.Test.YtbgdepaffgeinaaElNew
import Derived.Test.YtbgdepaffgeinaaElLog
namespace Go.Proofs.Ytbgdepaffgeinaa
open Go.RowKit
structure RQ where
  cA : Option Addr
  cc : Nat
  yA : Option Addr
  yc : Nat
  eA : Option Addr
  ec : Nat
def RQ.head (q : RQ) (x : ND) : List Value := [.int .i64 x.me, .int .i64 x.vote, .int .i64 x.role, .int .i64 x.lead, .slice q.cA x.conf.length q.cc, .slice q.yA x.yes.length q.yc, .int .u64 (x.term : Int), .int .u64 0, .int .u64 (x.base : Int), .int .u64 (x.bt : Int), .slice q.eA x.es.length q.ec, .bool x.heard]
def RQ.cells (q : RQ) (x : ND) : List Value := q.head x ++ (x.next.map uv ++ x.mt.map uv)
/-- a slice that reads: what came in, or one of S's blocks, but not g -/
def Rd (H : Nat) (w : World) (S : Nat → Prop) (g size : Nat) (A : Option Addr) (n c : Nat) (xs : List Value) : Prop := Sl w 0 w.heap.size size A n c xs ∧ ∀ ad, A = some ad → 0 < n → (ad.block < H ∨ S ad.block) ∧ ad.block ≠ g
structure RN (H : Nat) (w : World) (S : Nat → Prop) (g : Nat) (q : RQ) (x : ND) : Prop where
  low : ∀ k, S k → H ≤ k
  top : ∀ k, S k → k < w.heap.size
  gS : S g
  hH : H ≤ w.heap.size
  n16 : x.next.length = 16
  m16 : x.mt.length = 16
  blk : Blk w g 98 (q.cells x).toArray
  conf : Rd H w S g 1 q.cA x.conf.length q.cc (x.conf.map iv)
  yes : Rd H w S g 1 q.yA x.yes.length q.yc (x.yes.map iv)
  es : Rd H w S g 3 q.eA x.es.length q.ec (ecells x.es)
theorem Rd.turn {H : Nat} {w w1 : World} {S S' : Nat → Prop} {g size n c : Nat} {A : Option Addr} {xs : List Value} (h : Rd H w S g size A n c xs) (hs : w.heap.size ≤ w1.heap.size) (hS : ∀ b, S b → S' b) (hb : ∀ b, b < w.heap.size → (b < H ∨ S b) → b ≠ g → w1.heap[b]? = w.heap[b]?) : Rd H w1 S' g size A n c xs :=
  ⟨⟨h.1.len, h.1.cap, h.1.max, fun hn => by
    obtain ⟨ad, e, h1, h2, hc⟩ := h.1.at_ hn
    obtain ⟨k1, k2⟩ := h.2 ad e hn
    exact ⟨ad, e, h1, by omega, fun j u hu => (World.cell?_of_block (by rw [block_of_add]; exact hb _ h2 k1 k2)).trans (hc j u hu)⟩⟩, fun ad e hn => ⟨(h.2 ad e hn).1.imp id (hS _), (h.2 ad e hn).2⟩⟩
theorem Rd.own {H : Nat} {w : World} {S : Nat → Prop} {g size n c base : Nat} {e : TypeId} {A : Option Addr} {xs : List Value} (h : w.ownsRow base e size (.slice A n c) n xs) (hS : ∀ b, base ≤ b → b < w.heap.size → S b) (hg : g < base) : Rd H w S g size A n c xs := by
  obtain ⟨A', c', hv, hs⟩ := own_sl h
  injection hv with e1 e2 e3
  subst e1 e3
  refine ⟨hs.wide (Nat.zero_le _) (Nat.le_refl _), fun ad e hn => ?_⟩
  obtain ⟨ad', e', h1, h2, -⟩ := hs.at_ hn
  rw [e] at e'
  injection e' with e'
  subst e'
  exact ⟨.inr (hS _ h1 h2), by omega⟩
theorem Rd.nil (H : Nat) (w : World) (S : Nat → Prop) (g size : Nat) : Rd H w S g size none 0 0 [] := ⟨Sl.nil_ _ _ _ _, fun _ e => by cases e⟩
theorem Rd.in_ {H : Nat} {w : World} {S : Nat → Prop} {g size n c lo hi : Nat} {A : Option Addr} {xs : List Value} (h : Sl w lo hi size A n c xs) (hsz : 0 < size) (hH : ∀ ad, A = some ad → 0 < n → ad.block < H) (hg : H ≤ g) : Rd H w S g size A n c xs :=
  ⟨(h.now hsz).wide (Nat.zero_le _) (Nat.le_refl _), fun ad e hn => ⟨.inl (hH ad e hn), by have := hH ad e hn; omega⟩⟩
section
variable {H : Nat} {w w1 : World} {S S' : Nat → Prop} {g : Nat} {q : RQ} {x : ND}
theorem RN.keep (h : RN H w S g q x) (hs : w.heap.size ≤ w1.heap.size) (hb : ∀ b, b < w.heap.size → (b < H ∨ S b) → w1.heap[b]? = w.heap[b]?) : RN H w1 S g q x :=
  ⟨h.low, fun k hk => Nat.lt_of_lt_of_le (h.top k hk) hs, h.gS, Nat.le_trans h.hH hs, h.n16, h.m16, (hb g (h.top g h.gS) (.inr h.gS)).trans h.blk, h.conf.turn hs (fun _ h => h) fun b h1 h2 _ => hb b h1 h2, h.yes.turn hs (fun _ h => h) fun b h1 h2 _ => hb b h1 h2, h.es.turn hs (fun _ h => h) fun b h1 h2 _ => hb b h1 h2⟩
theorem RN.after (h : RN H w S g q x) (hb : Below w.heap.size w w1) : RN H w1 S g q x := h.keep hb.size fun b h1 _ => hb.block b h1
theorem RN.drewN (h : RN H w S g q x) (n : Nat) : RN H (w.drewN n) S g q x := h.keep (Nat.le_refl _) fun _ _ _ => rfl
theorem RN.alloc (h : RN H w S g q x) (o : Obj) : RN H (w.alloc o) S g q x := h.after ((Below.refl _ w).alloc (Nat.le_refl _) o)
theorem RN.other {O : Nat → Prop} (h : RN H w S g q x) (hc : Chg O w w1) (hd : ∀ k, S k → ¬ O k) (hl : ∀ k, O k → H ≤ k) : RN H w1 S g q x :=
  h.keep hc.size fun b h1 h2 => hc.block b h1 fun hO => by
    rcases h2 with h2 | h2
    · have := hl b hO; omega
    · exact hd b h2 hO
theorem RN.c (h : RN H w S g q x) {k : Nat} {u : Value} (hu : (q.cells x)[k]? = some u) : w.cell? ⟨g, k, none⟩ = some u := by
  rw [h.blk.cell, List.getElem?_toArray]; exact hu
def GN2 (g : Nat) (k : Nat) : Prop := k = g
/-- the node's own block is written, the rest is new -/
theorem RN.turn (h : RN H w S g q x) (hc : Chg (GN2 g) w w1) {q' : RQ} {x' : ND} (hn : x'.next.length = 16) (hm : x'.mt.length = 16) (hb : Blk w1 g 98 (q'.cells x').toArray)
    (hcf : Rd H w1 (fun b => S b ∨ (w.heap.size ≤ b ∧ b < w1.heap.size)) g 1 q'.cA x'.conf.length q'.cc (x'.conf.map iv)) (hy : Rd H w1 (fun b => S b ∨ (w.heap.size ≤ b ∧ b < w1.heap.size)) g 1 q'.yA x'.yes.length q'.yc (x'.yes.map iv)) (he : Rd H w1 (fun b => S b ∨ (w.heap.size ≤ b ∧ b < w1.heap.size)) g 3 q'.eA x'.es.length q'.ec (ecells x'.es)) :
    ∃ S', RN H w1 S' g q' x' ∧ ∀ b, S' b → S b ∨ w.heap.size ≤ b :=
  ⟨fun b => S b ∨ (w.heap.size ≤ b ∧ b < w1.heap.size), ⟨fun k hk => hk.elim (h.low k) fun hk => Nat.le_trans h.hH hk.1, fun k hk => hk.elim (fun hk => Nat.lt_of_lt_of_le (h.top k hk) hc.size) fun hk => hk.2, .inl h.gS, Nat.le_trans h.hH hc.size, hn, hm, hb, hcf, hy, he⟩, fun b hb => hb.imp id And.left⟩
theorem RN.kept (h : RN H w S g q x) (hc : Chg (GN2 g) w w1) {size n c : Nat} {A : Option Addr} {xs : List Value} (hl : Rd H w S g size A n c xs) : Rd H w1 (fun b => S b ∨ (w.heap.size ≤ b ∧ b < w1.heap.size)) g size A n c xs :=
  hl.turn hc.size (fun b hS => .inl hS) fun b h1 _ hne => hc.block b h1 hne
theorem RN.made (h : RN H w S g q x) {size n c base : Nat} {e : TypeId} {A : Option Addr} {xs : List Value} (hl : w1.ownsRow base e size (.slice A n c) n xs) (hb : w.heap.size ≤ base) : Rd H w1 (fun b => S b ∨ (w.heap.size ≤ b ∧ b < w1.heap.size)) g size A n c xs :=
  Rd.own hl (fun b h1 h2 => .inr ⟨Nat.le_trans hb h1, h2⟩) (Nat.lt_of_lt_of_le (h.top g h.gS) hb)
end
set_option maxRecDepth 100000 in
set_option maxHeartbeats 3200000 in
theorem rnew_any (H : Nat) (me : Int) (A : Option Addr) (n c lo hi : Nat) (xs : List Int) (w : World) (hs : Sl w lo hi 1 A n c (xs.map iv)) (hn : n ≤ 1000) (hH : H ≤ w.heap.size) :
    Calls Try.prog 40 #[.int .i64 me, .slice A n c] w fun e w' => ∃ g q S, e = .returned (.pointer (some ⟨g, 0, none⟩)) ∧ RN H w' S g q (ND.fresh me xs) ∧ (∀ k, S k → w.heap.size ≤ k) ∧ Below w.heap.size w w' := by
  obtain ⟨i0, hi0, hz0, hz1, hz2⟩ := info_parts int_info
  have HS := Lib.hid (hs.alloc (by decide) (.cells #[] 3))
  have HL := Lib.hid (ilen hs)
  clear hs
  go_enter Try.func40, Try.ntmps40
  go_wp2_with (at_builtin; refine wpList_app _ rfl (.tmp 6) (.tmp 7) 51 rfl w.heap.size 3 i0 _ 1 8 Try.underlying51 hi0 hz0 hz1 hz2 rfl (by omega) (.slice (some ⟨w.heap.size, 0, none⟩) 0 0) 0 [] rfl (by exact own_empty w _ 1 _ rfl) _ _ A n c (xs.map iv) rfl HS.out (iv_one xs) (by simp only [maxLen]; omega) (by omega) (by simp) ?_; intro v4 w4 o4 g4 a4; obtain ⟨A4, c4, hv4, -⟩ := own_sl o4; subst hv4)
  go_ret
  have D4 : Below w.heap.size w w4 := ((Below.refl _ w).alloc (Nat.le_refl _) _).grown g4 (by simp) (fun k hk => by have h' : some w.heap.size = some k := hk; injection h' with h'; omega)
  have hs4 := D4.size
  have hc : Rd H (w4.alloc (.cells (RQ.cells ⟨A4, c4, none, 0, none, 0⟩ (ND.fresh me xs)).toArray 98)) (fun k => w.heap.size ≤ k ∧ k < w4.heap.size + 1) w4.heap.size 1 A4 n c4 (xs.map iv) := by
    simp only [Nat.zero_add, List.nil_append] at o4
    obtain ⟨A', c', hv, hsl⟩ := own_sl o4
    injection hv with e1 e2 e3
    subst e1 e3
    refine ⟨(hsl.alloc (by decide) _).wide (Nat.zero_le _) (by simp), fun ad e hn => ?_⟩
    obtain ⟨ad', e', h1, h2, -⟩ := hsl.at_ hn
    rw [e] at e'
    injection e' with e'
    subst e'
    exact ⟨.inr ⟨h1, by omega⟩, by omega⟩
  have hlen : (ND.fresh me xs).conf.length = n := HL.out
  refine ⟨w4.heap.size, ⟨A4, c4, none, 0, none, 0⟩, fun k => w.heap.size ≤ k ∧ k < w4.heap.size + 1, rfl, ⟨fun k hk => by omega, fun k hk => by simp; omega, ⟨hs4, by omega⟩, by simp; omega, rfl, rfl, ?_, ?_, Rd.nil _ _ _ _ _, Rd.nil _ _ _ _ _⟩, fun k hk => hk.1, D4.alloc hs4 _⟩
  · have e : (RQ.cells ⟨A4, c4, none, 0, none, 0⟩ (ND.fresh me xs)).toArray = #[.int .i64 me, .int .i64 (-1), .int .i64 0, .int .i64 (-1), .slice A4 n c4, .slice none 0 0, .int .u64 0, .int .u64 0, .int .u64 0, .int .u64 0, .slice none 0 0, .bool false, .int .u64 0, .int .u64 0, .int .u64 0, .int .u64 0, .int .u64 0, .int .u64 0, .int .u64 0, .int .u64 0, .int .u64 0, .int .u64 0, .int .u64 0, .int .u64 0, .int .u64 0, .int .u64 0, .int .u64 0, .int .u64 0, .int .u64 0, .int .u64 0, .int .u64 0, .int .u64 0, .int .u64 0, .int .u64 0, .int .u64 0, .int .u64 0, .int .u64 0, .int .u64 0, .int .u64 0, .int .u64 0, .int .u64 0, .int .u64 0, .int .u64 0, .int .u64 0] := by
      unfold RQ.cells RQ.head
      rw [hlen]
      rfl
    rw [e]
    exact Blk.new w4 _ _
  · rw [hlen]
    exact hc.turn (by simp) (fun _ h => h) (fun b h1 h2 hne => by
      have hlt : b < w4.heap.size := by simp at h1; omega
      rw [Below.heap_alloc w4 _ b hlt, Below.heap_alloc w4 _ b hlt])
end Go.Proofs.Ytbgdepaffgeinaa
