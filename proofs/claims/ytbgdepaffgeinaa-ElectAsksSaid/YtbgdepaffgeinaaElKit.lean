/- Memory words for the nodes that ask. -/
import Derived.Test.YtbgdepaffgeinaaProg
import Derived.Test.YtbgdepaffgeinaaEzLast
import Derived.Deep.RegionHeld3
import Derived.Deep.RegionWith
import Derived.Deep.RegionLaw
import Derived.Deep.QuietTactic
import Derived.BigQuiet
import Derived.Lib.SliceRun
import Derived.WalkLawsBesides
import Derived.NoCompiler
namespace Go.Proofs.Ytbgdepaffgeinaa
open Go.RowKit
theorem size_setCell' (w : World) (p : Addr) (u : Value) : (w.setCell p u).heap.size = w.heap.size := by simp
theorem only_setCell {a w : World} {g : Nat} (h : a.grownBy w (some g)) (i : Nat) (u : Value) : a.grownBy (w.setCell ⟨g, i, none⟩ u) (some g) :=
  ⟨h.os, h.tape, h.output, by simpa using h.size, fun k hk hne => (Below.heap_setCell w ⟨g, i, none⟩ u k (fun e => hne (by rw [e]))).trans (h.block k hk hne)⟩
theorem own_far {w : World} {base e size n : Nat} {v : Value} {xs : List Value} (h : w.ownsRow base e size v n xs) {g : Nat} (hg : v.ownBlock ≠ some g) (i : Nat) (u : Value) : (w.setCell ⟨g, i, none⟩ u).ownsRow base e size v n xs :=
  h.kept (only_setCell (World.grownBy.refl w (some g)) i u) (.inr hg)
theorem map_add0 (A : Option Addr) : A.map (·.add 0) = A := by cases A <;> simp [Addr.add]
theorem addr0 (b j : Nat) : (⟨b, 0, none⟩ : Addr).add j = ⟨b, j, none⟩ := by unfold Addr.add; split <;> simp_all
theorem own_same {w w1 : World} {base e size n : Nat} {v : Value} {xs : List Value} (h : w.ownsRow base e size v n xs) (hb : ∀ b, v.ownBlock = some b → w1.heap[b]? = w.heap[b]?) : w1.ownsRow base e size v n xs := by
  rcases h.2 with hn | ⟨b, cap, cur, hv, h1, h2, rest⟩
  · exact ⟨h.1, .inl hn⟩
  · exact ⟨h.1, .inr ⟨b, cap, cur, hv, h1, (hb b (by rw [hv]; rfl)).trans h2, rest⟩⟩
theorem Blk.c2 {w : World} {g : Nat} {t : TypeId} {a b : Value} (h : Blk w g t #[a, b]) : w.cell? ⟨g, 0, none⟩ = some a ∧ w.cell? ⟨g, 1, none⟩ = some b := ⟨h.cell 0, h.cell 1⟩
theorem Blk.ne {w : World} {g g' : Nat} {t t' : TypeId} {cs cs' : Array Value} (h : Blk w g t cs) (h' : Blk w g' t' cs') (ht : t ≠ t') : g ≠ g' := by
  rintro rfl
  unfold Blk at h h'
  rw [h] at h'
  injection h' with h'
  injection h' with _ e
  exact ht e
theorem row_ne {w : World} {g : Nat} {t e : TypeId} {cs : Array Value} {base size n : Nat} {v : Value} {xs : List Value} (h : w.ownsRow base e size v n xs) (hb : Blk w g t cs) (ht : t ≠ e) : v.ownBlock ≠ some g := by
  intro e'
  rcases h.2 with ⟨rfl, _⟩ | ⟨b', cap, cur', rfl, _, hh, _⟩
  · cases e'
  · have e2 : b' = g := by simpa [Value.ownBlock] using e'
    subst e2
    unfold Blk at hb
    rw [hh] at hb
    injection hb with hb
    injection hb with _ e3
    exact ht e3.symm
theorem row_ne_row {w : World} {e e' : TypeId} {base size n base' size' n' : Nat} {v v' : Value} {xs xs' : List Value} (h : w.ownsRow base e size v n xs) (h' : w.ownsRow base' e' size' v' n' xs') (ht : e ≠ e') : ∀ b, v.ownBlock = some b → v'.ownBlock ≠ some b := by
  intro b hb hb'
  rcases h.2 with ⟨rfl, _⟩ | ⟨b1, cap, cur, rfl, _, hh, _⟩
  · cases hb
  · rcases h'.2 with ⟨rfl, _⟩ | ⟨b2, cap', cur', rfl, _, hh', _⟩
    · cases hb'
    · have e1 : b1 = b := by simpa [Value.ownBlock] using hb
      have e2 : b2 = b := by simpa [Value.ownBlock] using hb'
      subst e1 e2
      rw [hh] at hh'
      injection hh' with hh'
      injection hh' with _ e3
      exact ht e3

/-- blocks but those of O are as they were -/
structure Chg (O : Nat → Prop) (w w' : World) : Prop where
  os : w'.os = w.os
  tape : w'.tape = w.tape
  output : w'.output = w.output
  size : w.heap.size ≤ w'.heap.size
  block : ∀ k, k < w.heap.size → ¬ O k → w'.heap[k]? = w.heap[k]?
def Sub (O : Nat → Prop) (w : World) (O' : Nat → Prop) : Prop := ∀ k, O' k → O k ∨ w.heap.size ≤ k
section
variable {O O' : Nat → Prop} {w w1 w2 : World}
theorem Chg.refl (O : Nat → Prop) (w : World) : Chg O w w := ⟨rfl, rfl, rfl, Nat.le_refl _, fun _ _ _ => rfl⟩
theorem Chg.below (h : Below w.heap.size w w1) : Chg O w w1 := ⟨h.os, h.tape, h.output, h.size, fun k hk _ => h.block k hk⟩
theorem Chg.grown {r : Option Nat} (h : w.grownBy w1 r) (hr : ∀ g, r = some g → O g ∨ w.heap.size ≤ g) : Chg O w w1 :=
  ⟨h.os, h.tape, h.output, h.size, fun k hk hn => h.block k hk (fun e => by rcases hr k e.symm with h1 | h1; exact hn h1; omega)⟩
theorem Chg.trans (h : Chg O w w1) (hs : Sub O w O') (k : Chg O' w1 w2) : Chg O w w2 :=
  ⟨k.os.trans h.os, k.tape.trans h.tape, k.output.trans h.output, Nat.le_trans h.size k.size, fun i hi hn => (k.block i (Nat.lt_of_lt_of_le hi h.size) (fun hO => by rcases hs i hO with h1 | h1; exact hn h1; omega)).trans (h.block i hi hn)⟩
theorem Chg.same (h : Chg O w w1) (k : Chg O w1 w2) : Chg O w w2 := h.trans (fun _ hk => .inl hk) k
theorem Chg.mono (h : Chg O w w1) (hs : ∀ k, O k → O' k) : Chg O' w w1 := ⟨h.os, h.tape, h.output, h.size, fun k hk hn => h.block k hk fun h' => hn (hs k h')⟩
theorem Chg.set {g : Nat} (hg : O g) (i : Nat) (u : Value) : Chg O w (w.setCell ⟨g, i, none⟩ u) := Chg.grown (only_setCell (World.grownBy.refl w (some g)) i u) fun k e => by cases e; exact .inl hg
theorem Chg.drewN (h : Chg O w w1) (q : Nat) : Chg O w (w1.drewN q) := ⟨h.os, h.tape, h.output, h.size, h.block⟩
theorem Chg.put {g : Nat} (h : Chg O w w1) (hg : O g) (i : Nat) (u : Value) : Chg O w (w1.setCell ⟨g, i, none⟩ u) := h.same (Chg.set hg i u)
theorem Sub.refl (O : Nat → Prop) (w : World) : Sub O w O := fun _ h => .inl h
theorem Sub.trans {O'' : Nat → Prop} (h : Sub O w O') (k : Sub O' w1 O'') (hs : w.heap.size ≤ w1.heap.size) : Sub O w O'' := fun i hi => by
  rcases k i hi with h1 | h1
  · exact h i h1
  · exact .inr (by omega)
theorem Chg.toBelow {H : Nat} (h : Chg O w w1) (hO : ∀ k, O k → H ≤ k) (hH : H ≤ w.heap.size) : Below H w w1 := ⟨h.os, h.tape, h.output, h.size, fun k hk => h.block k (by omega) (fun h1 => by have := hO k h1; omega)⟩
theorem Blk.chg {g : Nat} {t : TypeId} {cs : Array Value} (h : Blk w g t cs) (hc : Chg O w w1) (hO : ¬ O g) : Blk w1 g t cs := (hc.block g h.lt hO).trans h
theorem own_chg {base e size n : Nat} {v : Value} {xs : List Value} (h : w.ownsRow base e size v n xs) (hc : Chg O w w1) (hO : ∀ b, v.ownBlock = some b → ¬ O b) : w1.ownsRow base e size v n xs :=
  own_same h fun b hb => hc.block b (h.lt b hb).2 (hO b hb)
end

/-! ### cells of a row that are written -/
theorem grown_setCells {a : World} {b : Nat} : ∀ (vs : List Value) (o : Nat) {W : World}, a.grownBy W (some b) → a.grownBy (W.setCells b o vs) (some b)
  | [], _, _, h => h
  | v :: vs, o, _, h => grown_setCells vs (o + 1) (only_setCell h o v)
theorem heap_setCells_at {b : Nat} {t : TypeId} {fr : Nat × Nat} : ∀ (vs : List Value) (o : Nat) (W : World) (cs : Array Value), W.heap[b]? = some (.cells cs t fr) →
    ∃ cs' : Array Value, (W.setCells b o vs).heap[b]? = some (.cells cs' t fr) ∧ cs'.size = cs.size ∧ ∀ j, j < cs.size → cs'[j]? = if o ≤ j ∧ j < o + vs.length then vs[j - o]? else cs[j]?
  | [], o, W, cs, h => ⟨cs, h, rfl, fun j _ => by rw [if_neg (by simp)]⟩
  | v :: vs, o, W, cs, h => by
    have h1 : (W.setCell ⟨b, o, none⟩ v).heap[b]? = some (.cells (cs.setIfInBounds o v) t fr) := by simp [World.setCell, Array.getElem?_modify, h]
    obtain ⟨cs', h2, h3, h4⟩ := heap_setCells_at vs (o + 1) _ _ h1
    refine ⟨cs', h2, by rw [h3]; simp, fun j hj => ?_⟩
    rw [h4 j (by simpa using hj), Array.getElem?_setIfInBounds]
    by_cases hjo : o = j
    · subst hjo
      rw [if_neg (by omega), if_pos rfl, if_pos hj, if_pos (by simp)]
      simp
    · rw [if_neg hjo]
      by_cases h5 : o + 1 ≤ j ∧ j < o + 1 + vs.length
      · rw [if_pos h5, if_pos (by simp; omega)]
        rw [show j - o = (j - (o + 1)) + 1 by omega, List.getElem?_cons_succ]
      · rw [if_neg h5, if_neg (by simp; omega)]
/-- a row of the call's own, some of its cells written -/
theorem own_setCells {w : World} {base e size n g c : Nat} {A : Option Addr} {xs : List Value} (h : w.ownsRow base e size (.slice A n c) n xs) (hA : A = some ⟨g, 0, none⟩) (o : Nat) (vs : List Value) (ho : o + vs.length ≤ n * size) :
    (w.setCells g o vs).ownsRow base e size (.slice A n c) n (xs.take o ++ vs ++ xs.drop (o + vs.length)) := by
  subst hA
  rcases h.2 with ⟨h', _⟩ | ⟨g', cap, cur, hv, h1, hh, h2, h3, h4, h5⟩
  · cases h'
  · simp only [Value.slice.injEq, Option.some.injEq, Addr.mk.injEq, and_true, true_and] at hv
    obtain ⟨rfl, rfl⟩ := hv
    obtain ⟨c1, k1, k2, k3⟩ := heap_setCells_at vs o w cur hh
    have hx : xs.length = n * size := h.1
    have hcsz : n * size ≤ cur.size := by
      have := congrArg List.length h5
      rw [List.length_take, Array.length_toList, hx] at this
      omega
    refine ⟨by simp; omega, .inr ⟨g, c, c1, rfl, h1, k1, h2, h3, by rw [k2]; exact h4, ?_⟩⟩
    apply List.ext_getElem?
    intro j
    rw [List.getElem?_take]
    by_cases hj : j < n * size
    · rw [if_pos hj, Array.getElem?_toList, k3 j (by omega)]
      have hxj : cur[j]? = xs[j]? := by rw [← h5, List.getElem?_take, if_pos hj, Array.getElem?_toList]
      by_cases hjo : o ≤ j ∧ j < o + vs.length
      · rw [if_pos hjo, List.append_assoc, List.getElem?_append_right (by simp; omega), List.getElem?_append_left (by simp; omega)]
        congr 1
        simp; omega
      · rw [if_neg hjo, hxj]
        by_cases hlt : j < o
        · rw [List.append_assoc, List.getElem?_append_left (by simp; omega), List.getElem?_take, if_pos hlt]
        · rw [List.getElem?_append_right (by simp; omega), List.getElem?_drop]
          congr 1
          simp; omega
    · rw [if_neg hj, List.getElem?_eq_none (by simp; omega)]
/-- clear of a piece of a row, an element of whatever cells -/
theorem run_clear_k {P : Program} (w : World) (t e ty : TypeId) (z : Value) (k : Nat) (ht : P.underlying t = some (.slice e)) (hv : ∀ w, (zeroValue e).run P w = .ok z w) (h1 : ∀ n, ∀ v ∈ (Builtin.zeroCells z.cells n).toList, v.oneCell' = true) (hk : z.cells.size = k) (b o n c : Nat) (hn : 0 < n)
    (hc : ∀ j, j < n * k → (w.cell? ⟨b, o + j, none⟩).isSome = true) (hf : ∀ j, j < n * k → w.frozen? ⟨b, o + j, none⟩ = false) :
    ∃ vs : List Value, vs.length = n * k ∧ (Builtin.clear_ #[t] ty #[.slice (some ⟨b, o, none⟩) n c]).run P w = .ok (.tuple #[]) (w.setCells b o vs) := by
  have hl : (Builtin.zeroCells z.cells n).toList.length = n * k := by simp [Builtin.zeroCells, hk]
  refine ⟨_, hl, ?_⟩
  have hst := run_storeCells_cells (P := P) b o (Builtin.zeroCells z.cells n).toList 0 w (by rw [hl]; simpa using hc) (by rw [hl]; simpa using hf) (h1 n)
  simp only [Nat.add_zero] at hst
  obtain ⟨m, rfl⟩ : ∃ m, n = m + 1 := ⟨n - 1, by omega⟩
  simp [Builtin.clear_, run_underlying ht, hv, hst]
theorem wpList_clear_k {P : Program} (w : World) {ops : Array Oper} {rest : List Oper} {o : Oper} {a : Act} {Q : Exit → Act → World → Prop} (hgd : o.guard = none) (s : Operand) (t : TypeId)
    (ho : o.op = .call { callee := .builtin .clear, args := #[s], argTypes := #[t] }) (e : TypeId) (z : Value) (k : Nat) (ht : P.underlying t = some (.slice e)) (hv : ∀ w, (zeroValue e).run P w = .ok z w) (h1 : ∀ n, ∀ v ∈ (Builtin.zeroCells z.cells n).toList, v.oneCell' = true) (hk : z.cells.size = k)
    (b off n c : Nat) (hs : a.eval s = .slice (some ⟨b, off, none⟩) n c) (hn : 0 < n) (hc : ∀ j, j < n * k → (w.cell? ⟨b, off + j, none⟩).isSome = true) (hf : ∀ j, j < n * k → w.frozen? ⟨b, off + j, none⟩ = false)
    (h : ∀ vs : List Value, vs.length = n * k → wpList P ops Q rest (a.put o.dst (.tuple #[])) (w.setCells b off vs)) : wpList P ops Q (o :: rest) a w := by
  refine wpList_plain hgd fun K hK => ?_
  obtain ⟨vs, hl, hrun⟩ := run_clear_k (P := P) w t e o.type z k ht hv h1 hk b off n c hn hc hf
  unfold Oper.wp execOp
  simp only [ho, resolve, invoke, builtin, Sem.run_bind, Sem.run_pure, Result.andThen_ok, List.map_toArray, List.map_cons, List.map_nil, hs, hrun]
  exact hK _ _ (h vs hl)
theorem own_cut {w : World} {base e size n c m : Nat} {A : Option Addr} {xs : List Value} (h : w.ownsRow base e size (.slice A n c) n xs) (hm : m ≤ n) : w.ownsRow base e size (.slice A m c) m (xs.take (m * size)) := by
  have hmul : m * size ≤ n * size := Nat.mul_le_mul_right _ hm
  have hl : (xs.take (m * size)).length = m * size := by rw [List.length_take, h.1]; omega
  rcases h.2 with ⟨hv, h0⟩ | ⟨g, cap, cur, hv, h1, hh, h2, h3, h4, h5⟩
  · injection hv with e1 e2 e3
    subst e1 e3
    have : m = 0 := by omega
    subst this
    exact ⟨hl, .inl ⟨rfl, rfl⟩⟩
  · injection hv with e1 e2 e3
    subst e1 e3
    refine ⟨hl, .inr ⟨g, c, cur, rfl, h1, hh, by omega, h3, h4, ?_⟩⟩
    rw [← h5, List.take_take, Nat.min_eq_left hmul]
/-- cells of an own row are there, and not frozen -/
theorem own_here {w : World} {base e size n b c : Nat} {xs : List Value} (h : w.ownsRow base e size (.slice (some ⟨b, 0, none⟩) n c) n xs) : (∀ j, j < n * size → (w.cell? ⟨b, j, none⟩).isSome = true) ∧ ∀ j, w.frozen? ⟨b, j, none⟩ = false := by
  constructor
  · intro j hj
    have hx : j < xs.length := by rw [h.1]; exact hj
    have := h.cells (g := b) rfl j _ (List.getElem?_eq_getElem hx)
    rw [addr0] at this
    rw [this]; rfl
  · intro j
    rcases h.2 with ⟨hv, _⟩ | ⟨b', cap, cur, hv, _, hh, _⟩
    · cases hv
    · have e : b = b' := by injection hv with e; injection e with e; injection e
      subst e
      simp [World.frozen?, hh]
theorem grown_of_below {w w1 : World} (h : Below w.heap.size w w1) (r : Option Nat) : w.grownBy w1 r := ⟨h.os, h.tape, h.output, h.size, fun k hk _ => h.block k hk⟩
theorem grown_alloc {a w : World} {r : Option Nat} (h : a.grownBy w r) (o : Obj) : a.grownBy (w.alloc o) r := ⟨h.os, h.tape, h.output, Nat.le_trans h.size (by simp), fun k hk hr => (Below.heap_alloc w o k (Nat.lt_of_lt_of_le hk h.size)).trans (h.block k hk hr)⟩
theorem _root_.Go.World.grownBy.below' {a w w1 : World} {r : Option Nat} (h : a.grownBy w r) (hb : Below w.heap.size w w1) : a.grownBy w1 r := ⟨hb.os.trans h.os, hb.tape.trans h.tape, hb.output.trans h.output, Nat.le_trans h.size hb.size, fun k hk hr => (hb.block k (Nat.lt_of_lt_of_le hk h.size)).trans (h.block k hk hr)⟩
theorem own_alloc' {w : World} {base e size n : Nat} {v : Value} {xs : List Value} (h : w.ownsRow base e size v n xs) (o : Obj) : (w.alloc o).ownsRow base e size v n xs := own_after h ((Below.refl _ w).alloc (Nat.le_refl _) o)
end Go.Proofs.Ytbgdepaffgeinaa
