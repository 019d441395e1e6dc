import Derived.Test.YtbgdepaffgeinaaEzBase
import Derived.Laws.OwnMore
import Derived.Deep.RegionLaw
import Derived.Deep.DeepCutAuto
import Derived.Deep.RegionWith
/- Slices that read as lists of bytes (the seat has no frames): the words of WFrame alone. -/
namespace Go.Proofs.Ytbgdepaffgeinaa
open Go.RowKit

/-- v is a slice of bytes that reads as l, in a block from lo to below hi. -/
def BytesIn (w : World) (lo hi : Nat) (v : Value) (l : List UInt8) : Prop := ∃ A c, v = .slice A l.length c ∧ Sl w lo hi 1 A l.length c (l.map bv)
/-- v is a slice of bytes that reads as l, wherever. -/
def Bytes (w : World) (v : Value) (l : List UInt8) : Prop := ∃ lo hi, BytesIn w lo hi v l
section
variable {w w' : World} {lo hi : Nat} {v : Value} {l : List UInt8}
theorem Sl.bytesIn {A : Option Addr} {n c : Nat} (h : Sl w lo hi 1 A n c (l.map bv)) : BytesIn w lo hi (.slice A n c) l := by
  have : n = l.length := by simpa using h.len.symm
  subst this
  exact ⟨A, c, rfl, h⟩
theorem Sl.bytes {A : Option Addr} {n c : Nat} (h : Sl w lo hi 1 A n c (l.map bv)) : Bytes w (.slice A n c) l := ⟨lo, hi, h.bytesIn⟩
theorem own_bytesIn {base n : Nat} {e : TypeId} (h : w.ownsRow base e 1 v n (l.map bv)) : BytesIn w base w.heap.size v l := by
  obtain ⟨A, c, rfl, hs⟩ := own_sl h
  exact hs.bytesIn
theorem own_bytes {base n : Nat} {e : TypeId} (h : w.ownsRow base e 1 v n (l.map bv)) : Bytes w v l := ⟨_, _, own_bytesIn h⟩
theorem BytesIn.bytes (h : BytesIn w lo hi v l) : Bytes w v l := ⟨lo, hi, h⟩
theorem BytesIn.wide {lo' hi' : Nat} (h : BytesIn w lo hi v l) (h1 : lo' ≤ lo) (h2 : hi ≤ hi') : BytesIn w lo' hi' v l := by
  obtain ⟨A, c, rfl, hs⟩ := h
  exact ⟨A, c, rfl, hs.wide h1 h2⟩
theorem BytesIn.after (h : BytesIn w lo hi v l) (hb : Below w.heap.size w w') : BytesIn w' lo hi v l := by
  obtain ⟨A, c, rfl, hs⟩ := h
  exact ⟨A, c, rfl, hs.after (by decide) hb⟩
theorem BytesIn.below {B : Nat} (h : BytesIn w lo hi v l) (hb : Below B w w') (hB : hi ≤ B) : BytesIn w' lo hi v l := by
  obtain ⟨A, c, rfl, hs⟩ := h
  exact ⟨A, c, rfl, hs.below hb hB⟩
theorem BytesIn.alloc (h : BytesIn w lo hi v l) (o : Obj) : BytesIn (w.alloc o) lo hi v l := by
  obtain ⟨A, c, rfl, hs⟩ := h
  exact ⟨A, c, rfl, hs.alloc (by decide) o⟩
theorem BytesIn.drewN (h : BytesIn w lo hi v l) (n : Nat) : BytesIn (w.drewN n) lo hi v l := by
  obtain ⟨A, c, rfl, hs⟩ := h
  exact ⟨A, c, rfl, hs.drewN n⟩
theorem BytesIn.setCell (h : BytesIn w lo hi v l) {p : Addr} (hp : p.block < lo ∨ hi ≤ p.block) (u : Value) : BytesIn (w.setCell p u) lo hi v l := by
  obtain ⟨A, c, rfl, hs⟩ := h
  exact ⟨A, c, rfl, hs.setCell hp u⟩
theorem BytesIn.grown {row : Option Nat} (h : BytesIn w lo hi v l) (hg : w.grownBy w' row) (hr : ∀ g, row = some g → g < lo ∨ hi ≤ g) : BytesIn w' lo hi v l := by
  obtain ⟨A, c, rfl, hs⟩ := h
  exact ⟨A, c, rfl, hs.grown (by decide) hg hr⟩
theorem Bytes.now (h : Bytes w v l) : BytesIn w 0 w.heap.size v l := by
  obtain ⟨lo, hi, A, c, rfl, hs⟩ := h
  exact ⟨A, c, rfl, (hs.now (by decide)).wide (Nat.zero_le _) (Nat.le_refl _)⟩
theorem Bytes.after (h : Bytes w v l) (hb : Below w.heap.size w w') : Bytes w' v l := (h.now.after hb).bytes
theorem Bytes.alloc (h : Bytes w v l) (o : Obj) : Bytes (w.alloc o) v l := (h.now.alloc o).bytes
theorem Bytes.drewN (h : Bytes w v l) (n : Nat) : Bytes (w.drewN n) v l := (h.now.drewN n).bytes
end
theorem same_v {u v : Value} {xs ys : List UInt8} {w : World} (ha : Bytes w u xs) (hb : Bytes w v ys) :
    Calls Try.prog 53 #[u, v] w fun e w' => e = .returned (.bool (xs == ys)) ∧ ∃ q, w' = w.drewN q := by
  obtain ⟨_, _, A, c, rfl, hs⟩ := ha
  obtain ⟨_, _, B, d, rfl, ht⟩ := hb
  exact same_any A B _ _ c d _ _ _ _ xs ys w hs ht
theorem same_val {u v : Value} {xs ys : List UInt8} {w : World} {b : Bool} (ha : Bytes w u xs) (hb : Bytes w v ys) (h : (xs == ys) = b) :
    Calls Try.prog 53 #[u, v] w fun e w' => e = .returned (.bool b) ∧ Below w.heap.size w w' := by
  rw [← h]
  exact (same_v ha hb).mono fun _ _ ⟨h1, q, h2⟩ => ⟨h1, h2 ▸ below_drewN (Below.refl _ _) q⟩
theorem same_quiet {u v : Value} {xs ys : List UInt8} {w : World} {b : Bool} (ha : Bytes w u xs) (hb : Bytes w v ys) (h : (xs == ys) = b) :
    Calls Try.prog 53 #[u, v] w fun e w' => e = .returned (.bool b) ∧ ∃ q, w' = w.drewN q := by
  rw [← h]
  exact same_v ha hb

end Go.Proofs.Ytbgdepaffgeinaa

/- Entries of a log: cells in threes. -/
namespace Go.Proofs.Ytbgdepaffgeinaa
open Go.RowKit

/-- an entry: its term, its kind, its bytes' slice, its bytes -/
structure Ent where
  t : Nat
  k : Int
  A : Option Addr
  c : Nat
  l : List UInt8
def Ent.v (e : Ent) : Value := .agg #[.int .u64 (e.t : Int), .int .i64 e.k, .slice e.A e.l.length e.c]
def Ent.cells (e : Ent) : List Value := [.int .u64 (e.t : Int), .int .i64 e.k, .slice e.A e.l.length e.c]
def ecells : List Ent → List Value
  | [] => []
  | e :: es => .int .u64 (e.t : Int) :: .int .i64 e.k :: .slice e.A e.l.length e.c :: ecells es
theorem ecells_len (es : List Ent) : (ecells es).length = es.length * 3 := by
  induction es with
  | nil => rfl
  | cons e es ih => simp only [ecells, List.length_cons, ih]; omega
theorem ecells_append (es fs : List Ent) : ecells (es ++ fs) = ecells es ++ ecells fs := by
  induction es with
  | nil => rfl
  | cons e es ih => simp only [ecells, List.cons_append, ih]
theorem ecells_drop (es : List Ent) (k : Nat) : ecells (es.drop k) = (ecells es).drop (k * 3) := by
  induction k generalizing es with
  | zero => simp
  | succ k ih =>
    cases es with
    | nil => simp [ecells]
    | cons e es =>
      rw [Nat.succ_mul]
      simp only [ecells, List.drop_succ_cons]
      exact ih es
theorem ecells_take (es : List Ent) (k : Nat) : ecells (es.take k) = (ecells es).take (k * 3) := by
  induction k generalizing es with
  | zero => simp [ecells]
  | succ k ih =>
    cases es with
    | nil => simp [ecells]
    | cons e es =>
      rw [Nat.succ_mul]
      simp only [ecells, List.take_succ_cons]
      rw [ih es]
theorem ecells_at (es : List Ent) (k : Nat) (e : Ent) (h : es[k]? = some e) : (ecells es)[k * 3]? = some (.int .u64 (e.t : Int)) ∧ (ecells es)[k * 3 + 1]? = some (.int .i64 e.k) ∧ (ecells es)[k * 3 + 2]? = some (.slice e.A e.l.length e.c) := by
  induction k generalizing es with
  | zero =>
    cases es with
    | nil => simp at h
    | cons x es =>
      simp at h
      subst h
      exact ⟨rfl, rfl, rfl⟩
  | succ k ih =>
    cases es with
    | nil => simp at h
    | cons x es =>
      have := ih es (by simpa using h)
      rw [Nat.succ_mul]
      simpa only [ecells, List.getElem?_cons_succ] using this
theorem add_off {w : World} {p : Addr} {u : Value} (h : w.cell? p = some u) (j : Nat) : p.add j = ⟨p.block, p.off + j, none⟩ := by
  have hs : p.spot = none := World.cell?_spot h
  obtain ⟨b, o, s⟩ := p
  simp only at hs
  subst hs
  unfold Addr.add
  split
  · next h => simp [h]
  · rfl
/-- a list's place: an element's three cells -/
theorem Sl.ent {w : World} {lo hi n c k : Nat} {A : Option Addr} {es : List Ent} (h : Sl w lo hi 3 A n c (ecells es)) (hk : k < n) :
    ∃ ad e, A = some ad ∧ es[k]? = some e ∧ w.cell? (ad.add (k * 3)) = some (.int .u64 (e.t : Int)) ∧ w.cell? ⟨(ad.add (k * 3)).block, (ad.add (k * 3)).off + 1, none⟩ = some (.int .i64 e.k) ∧ w.cell? ⟨(ad.add (k * 3)).block, (ad.add (k * 3)).off + 2, none⟩ = some (.slice e.A e.l.length e.c) := by
  obtain ⟨ad, e, _, _, hc⟩ := h.at_ (by omega)
  have hl : k < es.length := by have := h.len; rw [ecells_len] at this; omega
  obtain ⟨h0, h1, h2⟩ := ecells_at es k es[k] (List.getElem?_eq_getElem hl)
  have a0 := hc _ _ h0
  refine ⟨ad, es[k], e, List.getElem?_eq_getElem hl, a0, ?_, ?_⟩
  · rw [← add_off a0, add_of_add]; exact hc _ _ h1
  · rw [← add_off a0, add_of_add]; exact hc _ _ h2
def Ent.zero : Ent := ⟨0, 0, none, 0, []⟩
/-- the entry of a number, in a log of base b -/
def entAt (b : Nat) (es : List Ent) (i : Nat) : Ent := if b < i then (es[i - b - 1]?).getD Ent.zero else Ent.zero
def termAt (b bt : Nat) (es : List Ent) (i : Nat) : Nat := if i = b then bt else (entAt b es i).t
theorem entAt_in {b i : Nat} {es : List Ent} {e : Ent} (h : b < i) (he : es[i - b - 1]? = some e) : entAt b es i = e := by
  unfold entAt
  rw [if_pos h, he]; rfl
theorem entAt_out {b i : Nat} {es : List Ent} (h : ¬ (b < i ∧ i ≤ b + es.length)) : entAt b es i = Ent.zero := by
  unfold entAt
  by_cases h1 : b < i
  · rw [if_pos h1, List.getElem?_eq_none (by omega)]; rfl
  · rw [if_neg h1]
end Go.Proofs.Ytbgdepaffgeinaa

namespace Go.Proofs.Ytbgdepaffgeinaa
open Go.RowKit

set_option maxRecDepth 100000 in
theorem last_any (base n c : Nat) (bt : Int) (A : Option Addr) (w : World) (hb : base < 1152921504606846976) (hn : n ≤ 1000) :
    Calls Try.prog 15 #[.agg #[.int .u64 (base : Int), .int .u64 bt, .slice A n c]] w fun e w' => e = .returned (.int .u64 ((base : Int) + n)) ∧ Below w.heap.size w w' := by
  go_enter Try.func15, Try.ntmps15
  go_wp2
  go_ret
  exact ⟨rfl, (Below.refl _ _).alloc (Nat.le_refl _) _⟩
theorem alloc_size (w : World) (o : Obj) : (w.alloc o).heap.size = w.heap.size + 1 := by simp
theorem cell_below {w w1 : World} {p : Addr} {u : Value} (hb : Below w.heap.size w w1) (h : w.cell? p = some u) : w1.cell? p = some u := (hb.cell (World.block_lt_of_cell? w _ h)).trans h
theorem Blk.c1 {w : World} {g : Nat} {t : TypeId} {a : Value} (h : Blk w g t #[a]) : w.cell? ⟨g, 0, none⟩ = some a := h.cell 0
theorem Blk.c3 {w : World} {g : Nat} {t : TypeId} {a b c : Value} (h : Blk w g t #[a, b, c]) : w.cell? ⟨g, 0, none⟩ = some a ∧ w.cell? ⟨g, 1, none⟩ = some b ∧ w.cell? ⟨g, 2, none⟩ = some c := ⟨h.cell 0, h.cell 1, h.cell 2⟩
/-- below the first box is below -/
theorem below_boxed {w w' : World} {o : Obj} (h : Below (w.alloc o).heap.size (w.alloc o) w') : Below w.heap.size w w' :=
  ((Below.refl w.heap.size w).alloc (Nat.le_refl _) o).trans (h.mono (by simp))
set_option maxRecDepth 100000 in
theorem has_any (base n c i : Nat) (bt : Int) (A : Option Addr) (w : World) (hb : base < 1152921504606846976) (hn : n ≤ 1000) :
    Calls Try.prog 51 #[.agg #[.int .u64 (base : Int), .int .u64 bt, .slice A n c], .int .u64 (i : Int)] w fun e w' => e = .returned (.bool (decide (base < i ∧ i ≤ base + n))) ∧ Below w.heap.size w w' := by
  by_cases h : base < i
  · go_enter Try.func51, Try.ntmps51
    go_wp2_with (go_at_call 15; refine (last_any base n c bt A _ hb hn).mono ?_; rintro e w1 ⟨rfl, hb1⟩)
    go_ret
    exact ⟨congrArg (fun b => Ending.returned (Value.bool b)) (decide_eq_decide.2 ⟨fun _ => ⟨h, by omega⟩, fun _ => by omega⟩), below_boxed hb1⟩
  · go_enter Try.func51, Try.ntmps51
    go_wp2
    go_ret
    exact ⟨congrArg (fun b => Ending.returned (Value.bool b)) (decide_eq_false (by omega)).symm, (Below.refl _ _).alloc (Nat.le_refl _) _⟩
set_option maxRecDepth 100000 in
theorem entry_any (base bt n c i lo hi : Nat) (A : Option Addr) (es : List Ent) (w : World) (hs : Sl w lo hi 3 A n c (ecells es)) (hb : base < 1152921504606846976) (hn : n ≤ 1000) (hi : i < 18446744073709551616) :
    Calls Try.prog 18 #[.agg #[.int .u64 (base : Int), .int .u64 (bt : Int), .slice A n c], .int .u64 (i : Int)] w fun e w' => e = .returned (.tuple #[(entAt base es i).v, .bool (decide (base < i ∧ i ≤ base + n))]) ∧ Below w.heap.size w w' := by
  have hl : es.length = n := by have := hs.len; rw [ecells_len] at this; omega
  have hcap := hs.cap
  have hmax := hs.max
  by_cases h : base < i ∧ i ≤ base + n
  · have hd : decide (base < i ∧ i ≤ base + n) = true := decide_eq_true h
    obtain ⟨ad, e, rfl, he, hc0, hc1, hc2⟩ := hs.ent (k := i - base - 1) (by omega)
    rw [entAt_in h.1 he]
    rw [hd]
    have h1 := h.1
    go_enter Try.func18, Try.ntmps18
    go_wp2_with fail
    refine (has_any base n c i bt _ _ hb hn).mono ?_
    rintro e' w1 ⟨rfl, hb1⟩
    rw [hd]
    obtain ⟨x0, x1, x2⟩ := (((Blk.new w _ _).alloc _).after hb1).c3
    have B2 := (Blk.new _ _ _).after hb1
    simp only [alloc_size] at B2
    obtain ⟨y0, y1, y2⟩ := B2.c3
    have z0 := B2.frozen 0
    have z1 := B2.frozen 1
    have z2 := B2.frozen 2
    have D1 := below_boxed (below_boxed hb1)
    replace hc0 := cell_below D1 hc0
    replace hc1 := cell_below D1 hc1
    replace hc2 := cell_below D1 hc2
    go_wp2_with fail
    have B3 := ((B2.set_ 0 (.int .u64 (e.t : Int))).set_ 1 (.int .i64 e.k)).set_ 2 (.slice e.A e.l.length e.c)
    have D3 := ((D1.setCell (p := ⟨w.heap.size + 1, 0, none⟩) (Nat.le_succ _) (.int .u64 (e.t : Int))).setCell (p := ⟨w.heap.size + 1, 1, none⟩) (Nat.le_succ _) (.int .i64 e.k)).setCell (p := ⟨w.heap.size + 1, 2, none⟩) (Nat.le_succ _) (.slice e.A e.l.length e.c)
    obtain ⟨r0, r1, r2⟩ := B3.c3
    refine bodyPost_ret (v := .tuple #[.agg #[(.int .u64 (e.t : Int)), (.int .i64 e.k), (.slice e.A e.l.length e.c)], .bool true]) (by simp [results, Try.results18, go_sem, r0, r1, r2]) rfl ⟨rfl, D3⟩
  · have hd : decide (base < i ∧ i ≤ base + n) = false := decide_eq_false h
    rw [entAt_out (by rw [hl]; exact h), hd]
    go_enter Try.func18, Try.ntmps18
    go_wp2_with fail
    refine (has_any base n c i bt _ _ hb hn).mono ?_
    rintro e' w1 ⟨rfl, hb1⟩
    rw [hd]
    obtain ⟨x0, x1, x2⟩ := (((Blk.new w _ _).alloc _).after hb1).c3
    have B2 := (Blk.new _ _ _).after hb1
    simp only [alloc_size] at B2
    obtain ⟨y0, y1, y2⟩ := B2.c3
    have z0 := B2.frozen 0
    have z1 := B2.frozen 1
    have z2 := B2.frozen 2
    have D1 := below_boxed (below_boxed hb1)
    go_wp2_with fail
    have B3 := ((B2.set_ 0 (.int .u64 0)).set_ 1 (.int .i64 0)).set_ 2 (.slice none 0 0)
    have D3 := ((D1.setCell (p := ⟨w.heap.size + 1, 0, none⟩) (Nat.le_succ _) (.int .u64 0)).setCell (p := ⟨w.heap.size + 1, 1, none⟩) (Nat.le_succ _) (.int .i64 0)).setCell (p := ⟨w.heap.size + 1, 2, none⟩) (Nat.le_succ _) (.slice none 0 0)
    obtain ⟨r0, r1, r2⟩ := B3.c3
    refine bodyPost_ret (v := .tuple #[.agg #[(.int .u64 0), (.int .i64 0), (.slice none 0 0)], .bool false]) (by simp [results, Try.results18, go_sem, r0, r1, r2]) rfl ⟨rfl, D3⟩
set_option maxRecDepth 100000 in
theorem term_any (base bt n c i lo hi : Nat) (A : Option Addr) (es : List Ent) (w : World) (hs : Sl w lo hi 3 A n c (ecells es)) (hb : base < 1152921504606846976) (hn : n ≤ 1000) (hi : i < 18446744073709551616) :
    Calls Try.prog 16 #[.agg #[.int .u64 (base : Int), .int .u64 (bt : Int), .slice A n c], .int .u64 (i : Int)] w fun e w' => e = .returned (.tuple #[.int .u64 (termAt base bt es i : Nat), .bool (decide (base ≤ i ∧ i ≤ base + n))]) ∧ Below w.heap.size w w' := by
  by_cases h : i = base
  · subst h
    have hd : decide (i ≤ i ∧ i ≤ i + n) = true := decide_eq_true ⟨Nat.le_refl _, by omega⟩
    have ht : termAt i bt es i = bt := by simp [termAt]
    rw [hd, ht]
    go_enter Try.func16, Try.ntmps16
    go_wp2
    go_ret2
    exact ⟨rfl, (Below.refl _ _).alloc (Nat.le_refl _) _⟩
  · have hd : decide (base ≤ i ∧ i ≤ base + n) = decide (base < i ∧ i ≤ base + n) := decide_eq_decide.2 ⟨fun _ => by omega, fun _ => by omega⟩
    have ht : termAt base bt es i = (entAt base es i).t := by simp [termAt, h]
    rw [hd, ht]
    have hE := entry_any base bt n c i lo _ A es (w.alloc (.cells #[.int .u64 (base : Int), .int .u64 (bt : Int), .slice A n c] 25)) (hs.alloc (by decide) _) hb hn hi
    generalize entAt base es i = e at hE ⊢
    generalize decide (base < i ∧ i ≤ base + n) = d at hE ⊢
    have hne : ((i : Int) == (base : Int)) = false := by simp; omega
    unfold Ent.v at hE
    go_enter Try.func16, Try.ntmps16
    go_wp2_with (go_at_call 18; refine hE.mono ?_; rintro e' w1 ⟨rfl, hb1⟩)
    go_ret2
    exact ⟨rfl, (below_boxed hb1).alloc (Nat.le_of_lt (by have := hb1.size; simp at this; omega)) _⟩
end Go.Proofs.Ytbgdepaffgeinaa

namespace Go.Proofs.Ytbgdepaffgeinaa
open Go.RowKit

def lastTerm (base bt : Nat) (es : List Ent) : Nat := termAt base bt es (base + es.length)
set_option maxRecDepth 100000 in
theorem lastTerm_any (base bt n c lo hi : Nat) (A : Option Addr) (es : List Ent) (w : World) (hs : Sl w lo hi 3 A n c (ecells es)) (hb : base < 1152921504606846976) (hn : n ≤ 1000) :
    Calls Try.prog 20 #[.agg #[.int .u64 (base : Int), .int .u64 (bt : Int), .slice A n c]] w fun e w' => e = .returned (.int .u64 (lastTerm base bt es : Nat)) ∧ Below w.heap.size w w' := by
  have hl : es.length = n := by have := hs.len; rw [ecells_len] at this; omega
  unfold lastTerm
  rw [hl]
  have hT := fun w' (h : Below w.heap.size w w') => term_any base bt n c (base + n) lo _ A es w' (hs.now (by decide) |>.below h (Nat.le_refl _)) hb hn (by omega)
  generalize termAt base bt es (base + n) = T at hT ⊢
  generalize decide (base ≤ base + n ∧ base + n ≤ base + n) = d at hT
  have hi2 : ((base + n : Nat) : Int) = (base : Int) + (n : Int) := by omega
  rw [hi2] at hT
  have HT := Lib.hid hT
  clear hT
  go_enter Try.func20, Try.ntmps20
  go_wp2
  have hB := (Below.refl w.heap.size w).alloc (Nat.le_refl _) (.cells #[.int .u64 (base : Int), .int .u64 (bt : Int), .slice A n c] 25)
  have B1 := Blk.new w 25 #[.int .u64 (base : Int), .int .u64 (bt : Int), .slice A n c]
  generalize hw : w.alloc (Obj.cells #[.int .u64 (base : Int), .int .u64 (bt : Int), .slice A n c] 25) = wb at hB B1 ⊢
  clear hw
  obtain ⟨x0, x1, x2⟩ := B1.c3
  go_cut [3] (fun v6 w' => v6 = .int .u64 (T : Int) ∧ Below w.heap.size w w')
  case first =>
    go_region_law (first
      | (have _g := hB2; go_simp; go_at_call 16; refine (HT.out _ hB2).mono ?_; rintro e w4 ⟨rfl, hb4⟩)
      | (go_simp; go_at_call 15; refine (last_any base n c bt A _ hb hn).mono ?_; rintro e w3 ⟨rfl, hb3⟩; have hb3' : Below wb.heap.size wb w3 := (by first | exact hb3 | exact below_of_drew hb3); have hB2 := hB.trans (hb3'.mono hB.size); have y0 := cell_below hb3' x0; have y1 := cell_below hb3' x1; have y2 := cell_below hb3' x2))
    all_goals
      go_wp2
      go_meet
      exact ⟨rfl, hB2.trans (hb4.mono hB2.size)⟩
  case rest =>
    obtain ⟨rfl, hb1⟩ := hcut
    go_wp2
    go_ret
    exact ⟨rfl, hb1⟩

set_option maxRecDepth 100000 in
theorem newer_any (base bt n c term last lo hi : Nat) (A : Option Addr) (es : List Ent) (w : World) (hs : Sl w lo hi 3 A n c (ecells es)) (hb : base < 1152921504606846976) (hn : n ≤ 1000) :
    Calls Try.prog 21 #[.agg #[.int .u64 (base : Int), .int .u64 (bt : Int), .slice A n c], .int .u64 (term : Int), .int .u64 (last : Int)] w fun e w' => e = .returned (.bool (decide (lastTerm base bt es < term ∨ (term = lastTerm base bt es ∧ base + n ≤ last)))) ∧ Below w.heap.size w w' := by
  have hL := lastTerm_any base bt n c lo _ A es (w.alloc (.cells #[.int .u64 (base : Int), .int .u64 (bt : Int), .slice A n c] 25)) (hs.alloc (by decide) _) hb hn
  generalize lastTerm base bt es = T at hL ⊢
  by_cases h1 : T < term
  · have hd : decide (T < term ∨ (term = T ∧ base + n ≤ last)) = true := decide_eq_true (.inl h1)
    rw [hd]
    go_enter Try.func21, Try.ntmps21
    go_wp2_with (go_at_call 20; refine hL.mono ?_; rintro e' w1 ⟨rfl, hb1⟩)
    go_ret
    exact ⟨rfl, below_boxed hb1⟩
  · by_cases h2 : term = T
    · subst h2
      have hd : decide (term < term ∨ (term = term ∧ base + n ≤ last)) = decide ((base : Int) + n ≤ last) := decide_eq_decide.2 ⟨fun _ => by omega, fun _ => .inr ⟨rfl, by omega⟩⟩
      rw [hd]
      go_enter Try.func21, Try.ntmps21
      go_wp2_with fail
      refine hL.mono ?_
      rintro e' w1 ⟨rfl, hb1⟩
      obtain ⟨x0, x1, x2⟩ := ((Blk.new w _ _).after hb1).c3
      go_wp2_with (go_at_call 15; refine (last_any base n c bt A _ hb hn).mono ?_; rintro e w3 ⟨rfl, hb3⟩)
      go_ret
      exact ⟨rfl, (below_boxed hb1).trans (hb3.mono (below_boxed hb1).size)⟩
    · have hd : decide (T < term ∨ (term = T ∧ base + n ≤ last)) = false := decide_eq_false (by omega)
      have hne : ((term : Int) == (T : Int)) = false := by simp; omega
      rw [hd]
      go_enter Try.func21, Try.ntmps21
      go_wp2_with (go_at_call 20; refine hL.mono ?_; rintro e' w1 ⟨rfl, hb1⟩)
      go_ret
      exact ⟨rfl, below_boxed hb1⟩
end Go.Proofs.Ytbgdepaffgeinaa
