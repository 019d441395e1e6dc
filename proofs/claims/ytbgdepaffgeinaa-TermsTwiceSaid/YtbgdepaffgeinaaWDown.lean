import Derived.Test.YtbgdepaffgeinaaWLast2
import Derived.RangeFuncNested
import Derived.RangeFuncBound
import Derived.RangeFuncCalls
import Derived.RangeFuncLeaves
import Derived.Shelf.Abstract
import Derived.Shelf.RegionOpen
import Derived.OwnWalkIn
import Derived.TacticsInMore
import Derived.LoopNIn
import Derived.LoopIn
namespace Go.Proofs.Ytbgdepaffgeinaa
open Go.RowKit Go.Shelf
attribute [local go_sem] Oper.semAt_some

/-- what came in the first k rounds of down: the numbers from p down, their terms -/
def downs (base bt : Nat) (es : List Ent) (p k : Nat) : List (Nat × Nat) := (List.range k).map fun j => (p - j, termAt base bt es (p - j))
theorem downs_succ (base bt : Nat) (es : List Ent) (p k : Nat) : downs base bt es p (k + 1) = downs base bt es p k ++ [(p - k, termAt base bt es (p - k))] := by simp [downs, List.range_succ]
theorem downs_len (base bt : Nat) (es : List Ent) (p k : Nat) : (downs base bt es p k).length = k := by simp [downs]
/-- every block below n₀ but g lies as it lay -/
def KeepBut (n₀ g : Nat) (W W' : World) : Prop := W.heap.size ≤ W'.heap.size ∧ ∀ k, k < n₀ → k ≠ g → W'.heap[k]? = W.heap[k]?
theorem KeepBut.trans {n₀ g : Nat} {A B C : World} (h : KeepBut n₀ g A B) (h' : KeepBut n₀ g B C) : KeepBut n₀ g A C := ⟨Nat.le_trans h.1 h'.1, fun k hk hg => (h'.2 k hk hg).trans (h.2 k hk hg)⟩
theorem KeepBut.refl (n₀ g : Nat) (A : World) : KeepBut n₀ g A A := ⟨Nat.le_refl _, fun _ _ _ => rfl⟩
theorem KeepBut.of_below {n₀ g : Nat} {A B : World} (h : Below A.heap.size A B) (hn : n₀ ≤ A.heap.size) : KeepBut n₀ g A B := ⟨h.size, fun k hk _ => h.block k (by omega)⟩
theorem KeepBut.blk {n₀ g k : Nat} {A B : World} {t : TypeId} {cs : Array Value} (h : KeepBut n₀ g A B) (hk : k < n₀) (hg : k ≠ g) (hb : Blk A k t cs) : Blk B k t cs := (h.2 k hk hg).trans hb
theorem KeepBut.sl {n₀ g lo hi size n c : Nat} {A B : World} {a : Option Addr} {xs : List Value} (h : KeepBut n₀ g A B) (hk : hi ≤ n₀) (hg : hi ≤ g) (hs : Sl A lo hi size a n c xs) : Sl B lo hi size a n c xs :=
  hs.keep fun p h1 h2 => World.cell?_of_block (h.2 p.block (by omega) (by omega))
theorem abides_below {β : Type} {J : β → World → Prop} {N : Nat} {s : β} {A B : World} (hJ : AbidesFrom N J) (h : J s A) (hb : Below A.heap.size A B) : J s B :=
  hJ s A B none h ⟨hb.os, hb.tape, hb.output, hb.size, fun k hk _ => hb.block k hk⟩ (fun r e => by cases e)

set_option maxRecDepth 100000 in
set_option maxHeartbeats 2000000 in
theorem down1_in (m l f1 f2 n₀ g base bt n c p lo hi N : Nat) (A : Option Addr) (es : List Ent) (hb : base < 1152921504606846976) (hn : n ≤ 1000) (hp : p ≤ base + n) (hbp : base ≤ p) (_h1 : f1 < n₀) (_h1g : f1 ≠ g) (h2 : f2 < n₀) (h2g : f2 ≠ g) (hg : hi ≤ g) (hn0 : hi ≤ n₀) (hm : 1 ≤ m) (J Jx : List (Nat × Nat) → World → Prop)
    (W : World) (hJ : AbidesFrom N J) (hnW : n₀ ≤ W.heap.size)
    (hY : ∀ pre x W, J pre W → pre.length < p - base + 1 → YieldAt Fence.wide (m - 1) Try.prog l #[.int .u64 (x.1 : Nat), .int .u64 (x.2 : Nat)] W fun e W' =>
      (e = .returned (.bool true) ∧ J (pre ++ [x]) W' ∧ KeepBut n₀ g W W') ∨ (e = .returned (.bool false) ∧ Jx (pre ++ [x]) W'))
    (B1 : Blk W f1 22 #[.int .u64 (p : Int)]) (B2 : Blk W f2 25 #[.int .u64 (base : Int), .int .u64 (bt : Int), .slice A n c]) (hs : Sl W lo hi 3 A n c (ecells es)) (h0 : J [] W) :
    CallsIn Fence.wide m Try.prog 76 #[.func (.yield l) #[] #[], .pointer (some ⟨f1, 0, none⟩), .pointer (some ⟨f2, 0, none⟩)] W fun e W' => (∃ v, e = .returned v) ∧
      ((∃ ys, ys = downs base bt es p (p - base + 1) ∧ J ys W') ∨ (∃ pre, (∃ k, k ≤ p - base + 1 ∧ pre = downs base bt es p k) ∧ Jx pre W')) := by
  refine callsIn_of_wp Try.func76 rfl trivial ?_ rfl
  simp only [Try.ntmps76, List.size_toArray, List.length_cons, List.length_nil, Nat.reduceAdd, Nat.reduceSub, Array.replicate_succ, Array.replicate_zero, List.push_toArray, List.append_toArray, List.nil_append, List.cons_append]
  have x0 := B1.c1
  gi_wp2
  gi_loopw [4] (fun i wr => ∃ k j : Nat, k + j = p ∧ (base ≤ j ∨ j + 1 = base) ∧ i = .int .u64 j ∧ J (downs base bt es p k) wr ∧ KeepBut n₀ g W wr)
    (fun i _ => (intOf i).toNat)
  case atStart => exact ⟨0, p, by omega, .inl hbp, rfl, h0, KeepBut.refl _ _ _⟩
  case round =>
    obtain ⟨k, j, hkj, hjb, rfl, hJs, hK⟩ := hrel
    obtain ⟨y0, y1, y2⟩ := (hK.blk h2 h2g B2).c3
    by_cases hlt : base ≤ j
    · have hT := term_any base bt n c j lo hi A es wr (hK.sl hn0 hg hs) hb hn (by omega)
      have hlen : (downs base bt es p k).length < p - base + 1 := by rw [downs_len]; omega
      have hnext : downs base bt es p (k + 1) = downs base bt es p k ++ [(j, termAt base bt es j)] := by
        have : p - k = j := by omega
        rw [downs_succ, this]
      have hK2 := fun w2 (h : Below wr.heap.size wr w2) => hK.trans (KeepBut.of_below h (Nat.le_trans hnW hK.1))
      have HN := Lib.hid hnext
      clear hnext
      generalize termAt base bt es j = T at hT HN
      generalize decide (base ≤ j ∧ j ≤ base + n) = d at hT
      gi_wp2_with (first | (refine ⟨trivial, ?_⟩; gi_at_call 16; refine (callsIn_wide.2 hT).mono ?_; rintro e w2 ⟨rfl, hb2⟩; obtain ⟨fn, tmps, assign, body, hy, hR⟩ := hY _ (j, T) w2 (abides_below hJ hJs hb2) hlen; dsimp only at hy) | (gi_at_call 16; refine (callsIn_wide.2 hT).mono ?_; rintro e w2 ⟨rfl, hb2⟩; obtain ⟨fn, tmps, assign, body, hy, hR⟩ := hY _ (j, T) w2 (abides_below hJ hJs hb2) hlen; dsimp only at hy))
      refine hR.mono ?_
      rintro e W3 (⟨rfl, hJ3, hk3⟩ | ⟨rfl, hJx3⟩)
      · rw [← HN.out] at hJ3
        by_cases hj0 : j = 0
        · subst hj0
          gi_wp2
          refine bodyPost_ret (results_none rfl _ _ _) rfl ?_
          refine ⟨⟨_, rfl⟩, .inl ⟨_, ?_, hJ3⟩⟩
          have : k + 1 = p - base + 1 := by omega
          rw [this]
        · have hj0' : ((j : Int) == 0) = false := by simp; omega
          gi_wp2
          go_roundw
          case rel =>
            exact ⟨k + 1, j - 1, by omega, by omega, congrArg (Value.int .u64) (by omega), hJ3, (hK2 _ hb2).trans hk3⟩
          case measure => simp [intOf]; omega
      · gi_wp2
        refine bodyPost_ret (results_none rfl _ _ _) rfl ?_
        exact ⟨⟨_, rfl⟩, .inr ⟨_, ⟨k + 1, by omega, HN.out.symm⟩, hJx3⟩⟩
    · have hj1 : j + 1 = base := by omega
      gi_wp2
      go_end0
      refine ⟨⟨_, rfl⟩, .inl ⟨_, ?_, hJs⟩⟩
      have : k = p - base + 1 := by omega
      rw [this]
end Go.Proofs.Ytbgdepaffgeinaa
