/- Clocks, plain. -/
import Derived.Test.YtcocakbopbehjaaProg
namespace Go.Proofs.Ytcocakbopbehjaa
abbrev Tm := Int × Nat
def tlt (a b : Tm) : Bool := decide (a.2 < b.2) || (decide (a.2 = b.2) && decide (a.1 < b.1))
def tins (a : Tm) : List Tm → List Tm
  | [] => [a]
  | b :: l => if tlt a b then a :: b :: l else b :: tins a l
def tsort : List Tm → List Tm
  | [] => []
  | a :: l => tins a (tsort l)
def tle (a b : Tm) : Prop := tlt b a = false
theorem tlt_iff (a b : Tm) : tlt a b = true ↔ a.2 < b.2 ∨ (a.2 = b.2 ∧ a.1 < b.1) := by unfold tlt; simp
theorem tle_iff (a b : Tm) : tle a b ↔ ¬ (b.2 < a.2 ∨ (b.2 = a.2 ∧ b.1 < a.1)) := by
  unfold tle
  rw [← tlt_iff]
  simp
theorem tle_trans {a b c : Tm} (h : tle a b) (k : tle b c) : tle a c := by rw [tle_iff] at *; omega
theorem tle_anti {a b : Tm} (h : tle a b) (k : tle b a) : a = b := by
  rw [tle_iff] at *
  obtain ⟨a1, a2⟩ := a
  obtain ⟨b1, b2⟩ := b
  simp only at h k
  have h1 : a1 = b1 := by omega
  have h2 : a2 = b2 := by omega
  rw [h1, h2]
theorem tle_of_lt {a b : Tm} (h : tlt a b = true) : tle a b := by rw [tlt_iff] at h; rw [tle_iff]; omega
theorem tins_perm (a : Tm) : ∀ l, (tins a l).Perm (a :: l)
  | [] => List.Perm.refl _
  | b :: l => by
    unfold tins
    split
    · exact List.Perm.refl _
    · exact ((tins_perm a l).cons b).trans (List.Perm.swap a b l)
theorem tsort_perm : ∀ l, (tsort l).Perm l
  | [] => List.Perm.refl _
  | a :: l => (tins_perm a (tsort l)).trans ((tsort_perm l).cons a)
theorem tins_sorted (a : Tm) : ∀ l, List.Pairwise tle l → List.Pairwise tle (tins a l)
  | [], _ => by simp [tins]
  | b :: l, h => by
    obtain ⟨h1, h2⟩ := List.pairwise_cons.1 h
    unfold tins
    split
    · next hlt =>
      refine List.pairwise_cons.2 ⟨fun c hc => ?_, h⟩
      rcases List.mem_cons.1 hc with rfl | hc
      · exact tle_of_lt hlt
      · exact tle_trans (tle_of_lt hlt) (h1 c hc)
    · next hlt =>
      refine List.pairwise_cons.2 ⟨fun c hc => ?_, tins_sorted a l h2⟩
      have := (tins_perm a l).mem_iff.1 hc
      rcases List.mem_cons.1 this with rfl | hc
      · unfold tle; simpa using hlt
      · exact h1 c hc
theorem tsort_sorted : ∀ l, List.Pairwise tle (tsort l)
  | [] => List.Pairwise.nil
  | a :: l => tins_sorted a _ (tsort_sorted l)
theorem tsort_of {l m : List Tm} (hp : l.Perm m) (hs : List.Pairwise tle l) : l = tsort m :=
  List.Perm.eq_of_pairwise (fun _ _ _ _ => tle_anti) hs (tsort_sorted m) (hp.trans (tsort_perm m).symm)
theorem tsort_congr {l m : List Tm} (hp : l.Perm m) : tsort l = tsort m := tsort_of ((tsort_perm l).trans hp) (tsort_sorted l)
theorem tsort_len (l : List Tm) : (tsort l).length = l.length := (tsort_perm l).length_eq
/-- the least of them comes first -/
theorem tsort_min {t : Tm} {l : List Tm} (h : ∀ u ∈ l, tle t u) : tsort (t :: l) = t :: tsort l :=
  (tsort_of ((tsort_perm l).cons t) (List.pairwise_cons.2 ⟨fun u hu => h u ((tsort_perm l).mem_iff.1 hu), tsort_sorted l⟩)).symm

/-! ### one node -/
structure PN where
  now : Nat
  ts : List Tm
  paused : Bool
def lateb (now : Nat) (t : Tm) : Bool := decide (t.2 ≤ now)
def lates (p : PN) : List Tm := p.ts.filter (lateb p.now)
def rests (p : PN) : List Tm := p.ts.filter fun t => !lateb p.now t
def PN.due (p : PN) : List Tm := if p.paused then [] else tsort (lates p)
def PN.afterDue (p : PN) : PN := if p.paused then p else ⟨p.now, rests p, p.paused⟩
/-- where a timer stands: the length where it does not -/
def fidx (id : Int) (l : List Tm) : Nat := l.findIdx fun t => decide (t.1 = id)
def PN.set (p : PN) (id : Int) (after : Nat) : PN × Nat :=
  if 18446744073709551616 ≤ p.now + after then (p, 42)
  else if fidx id p.ts < p.ts.length then (⟨p.now, p.ts.set (fidx id p.ts) (id, p.now + after), p.paused⟩, 0)
  else if 40 ≤ p.ts.length then (p, 42)
  else (⟨p.now, p.ts ++ [(id, p.now + after)], p.paused⟩, 0)
def PN.stop (p : PN) (id : Int) : PN × Nat :=
  if fidx id p.ts < p.ts.length then (⟨p.now, p.ts.eraseIdx (fidx id p.ts), p.paused⟩, 0) else (p, 41)
def PN.tick (p : PN) (by_ : Nat) : PN × Nat :=
  if 18446744073709551616 ≤ p.now + by_ then (p, 42) else (⟨p.now + by_, p.ts, p.paused⟩, 0)
end Go.Proofs.Ytcocakbopbehjaa
