/- A range over a function whose iterator keeps its state in a block that lay ahead of the loop; the body never leaves. -/
import Derived.Test.YtciolppoanfiaaaDoorXCheck2
import Derived.RangeFuncNested
import Derived.RangeFuncBound
import Derived.RangeFuncCalls
import Derived.RangeFuncLeaves
import Derived.Shelf.Abstract
import Derived.Shelf.RegionOpen
import Derived.OwnWalkIn
import Derived.TacticsInMore
import Derived.LoopNIn
import Derived.LoopIn
namespace Go.Proofs.YtciolppoanfiaaaDoor
open Go Go.RowKit Go.Shelf

/-- what is said abides all that an iterator does with its own block g, and new blocks -/
def AbidesAt (g : Nat) {β : Type} (J : β → World → Prop) : Prop := ∀ s A B row, J s A → A.grownBy B row → (∀ r, row = some r → r = g) → J s B
/-- the contract of an iterator that keeps its state in block g: what has come (S), and what its rounds may rely on (Kp) -/
def SeqGoes {α : Type} (F : Fence) (n : Nat) (P : Program) (gf : Nat) (lb : Array Value) (g : Nat) (encs : α → Array Value) (Kp : World → World → Prop) (S : List α → World → Prop) (N : Nat) (w : World) : Prop :=
  ∀ (l : Nat) (J : List α → World → Prop) (W : World), Below w.heap.size w W → AbidesAt g J →
    (∀ pre x W1, J pre W1 → pre.length < N → YieldAt F (n - 1) P l (encs x) W1 fun e W' => e = .returned (.bool true) ∧ J (pre ++ [x]) W' ∧ Kp W1 W') →
    J [] W → CallsIn F n P gf (#[.func (.yield l) #[] #[]] ++ lb) W fun e W' => (∃ v, e = .returned v) ∧ ∃ xs, S xs W' ∧ J xs W'

variable {F : Fence} {n : Nat} {P : Program}
theorem wpIn_rangeFunc_state {α : Type} {g : Operand} {ps : Array Tmp} {assign body : Code} {Q : Exit → Act → World → Prop} {a : Act} {w : World}
    (hro : F.round = none) (h1 : 1 ≤ n) {gf : Nat} {lb : Array Value} (hg : a.eval g = .func (.func gf) #[] lb) (hFg : F.fn gf) (eg : ∀ args w, (callFunc gf args).run P w = .ok (.enter gf args) w)
    {gr : Nat} (hgr : gr < w.heap.size) {encs : α → Array Value} {Kp : World → World → Prop} {S : List α → World → Prop} {N : Nat} (hseq : SeqGoes F (n - 1) P gf lb gr encs Kp S N w)
    (hKt : ∀ {A B C : World}, Kp A B → Kp B C → Kp A C) (hKb : ∀ (W : World) (l : Nat) (o o' : Obj), w.heap.size ≤ l → W.heap[l]? = some o → o.isCells = false → o.isWalk = false → Kp W (W.putObj l o'))
    (hps : ∀ x, (encs x).size = ps.size) (I : List α → World → Prop)
    (hI : ∀ s A B row, I s A → A.grownBy B row → (∀ r, row = some r → r = gr ∨ (w.heap.size ≤ r ∧ ∃ o : Obj, A.heap[r]? = some o ∧ o.isCells = false)) → I s B) (h0 : I [] w) (Ax : α → Act → World → Prop)
    (hAx : ∀ x a' A B row, Ax x a' A → A.grownBy B row → (∀ r, row = some r → r = gr ∨ (w.heap.size ≤ r ∧ ∃ o : Obj, A.heap[r]? = some o ∧ o.isCells = false)) → Ax x a' B)
    (hassign : ∀ (l : Nat) (pre : List α) (x : α) (W : World) (K : Act → World → Prop), I pre W → (∀ a' W', KeepsOthers W W' → Kp W W' → I pre W' → Ax x a' W' → K a' W') →
      assign.wpIn (F.inRound l) (n - 1 - 1) P (Exit.then K (fun _ _ _ => False)) { tmps := (ps.zip (encs x)).foldl (fun t (p, v) => t.setIfInBounds p v) a.tmps, defers := [] } W)
    (hbody : ∀ (l : Nat) (pre : List α) (x : α) (a' : Act) (W : World), I pre W → Ax x a' W → pre.length < N → body.wpIn (F.inRound l) (n - 1 - 1) P (ownPostK Kp I (fun _ _ _ => False) (pre ++ [x]) W) a' W)
    (hdone : ∀ (D : Nat) (xs : List α) (W0 W : World), w.heap.size ≤ D → S xs W0 → W0.grownBy W (some (w.heap.size + 1)) → (∃ o : Obj, W0.heap[w.heap.size + 1]? = some o ∧ o.isCells = false) → I xs W → W.heap[D]? = some (.deferred (some [])) → Q .normal { a with defers := { target := .collected D, args := #[] } :: a.defers } W) :
    (Code.rangeFunc g ps assign body).wpIn F n P Q a w := by
  refine wpIn_rangeFunc fun fn hfn => ?_
  rw [hro]
  obtain ⟨rec, hrec⟩ : ∃ rec : LoopState → Option Code → Loop, rec = fun st pe => { state := st, pending := pe, fn, tmps := a.tmps, params := ps, assign, body, defers := w.heap.size } := ⟨_, rfl⟩
  -- the world with the two blocks of the loop's own
  obtain ⟨X, hX⟩ : ∃ X, (w.alloc (.deferred (some []))).alloc (.loop (rec .ready none)) = X := ⟨_, rfl⟩
  have xl : X.heap[w.heap.size + 1]? = some (.loop (rec .ready none)) := by
    have := World.alloc_heap_new (w.alloc (.deferred (some []))) (.loop (rec .ready none))
    rw [World.size_alloc, hX] at this
    exact this
  have xd : X.heap[w.heap.size]? = some (.deferred (some [])) := by
    rw [← hX]
    exact (Below.heap_alloc _ _ _ (by simp)).trans (World.alloc_heap_new w _)
  have xb : Below w.heap.size w X := by
    rw [← hX]
    exact ((Below.refl _ w).alloc (Nat.le_refl _) _).alloc (by simp) _
  have xi : I [] X := hI [] w X none h0 ⟨xb.os, xb.tape, xb.output, xb.size, fun k hk _ => xb.block k hk⟩ (fun r e => by cases e)
  -- the record turns: what is said of the rest abides
  have put : ∀ {s : List α} {W : World} {o o' : Obj}, I s W → W.heap[w.heap.size + 1]? = some o → o.isCells = false → I s (W.putObj (w.heap.size + 1) o') := fun hi hl ho =>
    hI _ _ _ _ hi (grownBy_putObj' _ _ _) (fun r e => by cases e; exact .inr ⟨by omega, _, hl, ho⟩)
  refine ⟨w.heap.size + 1, [{ target := .collected w.heap.size, args := #[] }], X, { target := .fn (.func gf) lb, args := #[.func (.yield (w.heap.size + 1)) #[] #[]] }, X, gf,
    #[.func (.yield (w.heap.size + 1)) #[] #[]] ++ lb, X, ?_, ?_, ?_, ?_, fun _ => h1, ?_⟩
  · rw [← hX, hrec]
    exact run_enterLoop_outer _ _ _ _ _
  · simp only [resolve, hg]
    simp [go_sem]
  · intro f' hf'
    simp [Target.leads] at hf'
    subst hf'
    exact hFg
  · simp [invoke, go_sem, eg]
  · refine (hseq (w.heap.size + 1) (fun pre W => I pre W ∧ W.heap[w.heap.size + 1]? = some (.loop (rec .ready none)) ∧ W.heap[w.heap.size]? = some (.deferred (some []))) X xb ?_ ?_ ⟨xi, xl, xd⟩).mono ?_
    · rintro s A B row ⟨hi, hl, hd⟩ hgb hr
      have hne : ∀ k, w.heap.size ≤ k → some k ≠ row := fun k hk e => by have := hr k e.symm; omega
      exact ⟨hI s A B row hi hgb (fun r e => .inl (hr r e)), (hgb.block _ (Array.getElem?_eq_some_iff.1 hl).1 (hne _ (by omega))).trans hl, (hgb.block _ (Array.getElem?_eq_some_iff.1 hd).1 (hne _ (Nat.le_refl _))).trans hd⟩
    · rintro pre x W ⟨hi, hl, hd⟩ hlen
      have hlt := (Array.getElem?_eq_some_iff.1 hl).1
      have hy := run_yield (P := P) (args := encs x) hl (by rw [hrec]; exact hps x)
      rw [hrec] at hy
      refine ⟨fn, _, assign, body, hy, roundIn_of_wpIn hfn (hassign _ pre x W _ hi fun a' V ho hkv hiv hax => ⟨_, run_beginRound (ho.same _ _ hl rfl) (by rw [hrec]), ?_⟩)⟩
      have hlV := ho.same _ _ hl rfl
      have hdV := ho.same _ _ hd rfl
      have hltV := (Array.getElem?_eq_some_iff.1 hlV).1
      obtain ⟨b, hb⟩ : ∃ b, (.loop { rec .ready none with state := .busy } : Obj) = b := ⟨_, rfl⟩
      have hbusy : (V.putObj (w.heap.size + 1) b).heap[w.heap.size + 1]? = some b := World.putObj_heap_same hltV
      have hd2 : (V.putObj (w.heap.size + 1) b).heap[w.heap.size]? = some (.deferred (some [])) := (World.putObj_heap_other (by omega)).trans hdV
      have hk1 : Kp W (V.putObj (w.heap.size + 1) b) := hKt hkv (hKb _ _ _ _ (by omega) hlV rfl rfl)
      have hax2 : Ax x a' (V.putObj (w.heap.size + 1) b) := hAx _ _ _ _ _ hax (grownBy_putObj' _ _ _) (fun r e => by cases e; exact .inr ⟨by omega, _, hlV, rfl⟩)
      rw [← hb] at hbusy hd2 hk1 hax2
      refine wpIn_mono (hbody _ pre x _ _ (put hiv hlV rfl) hax2 hlen) ?_
      rintro e a3 W3 hp
      cases e with
      | normal =>
        obtain ⟨hk3, hkp3, hi3⟩ := hp
        have hl3 := hk3.same _ _ hbusy rfl
        have hr := run_endRound (P := P) none hl3
        rw [hrec] at hr hl3
        refine ⟨_, _, hr, rfl, ⟨put hi3 hl3 rfl, ?_, (World.putObj_heap_other (by omega)).trans (hk3.same _ _ hd2 rfl)⟩, hKt (hKt hk1 hkp3) (hKb _ _ _ _ (by omega) hl3 rfl rfl)⟩
        rw [hrec]
        exact World.putObj_heap_same (Array.getElem?_eq_some_iff.1 hl3).1
      | ret => exact hp.2.elim
      | exit id => exact hp.2.elim
      | goto t => exact hp.2.elim
      | panic ch => exact hp.elim
      | outgrown => exact hp.elim
    · rintro e W2 ⟨⟨v, rfl⟩, xs, hS, hi, hl, hd⟩
      refine ⟨none, _, by have := run_endLoop (P := P) hl (by rw [hrec]; simp); rw [hrec] at this; exact this, ?_⟩
      exact hdone _ xs W2 _ (Nat.le_refl _) hS (grownBy_putObj' _ _ _) ⟨_, hl, rfl⟩ (put hi hl rfl) ((World.putObj_heap_other (by omega)).trans hd)
end Go.Proofs.YtciolppoanfiaaaDoor
