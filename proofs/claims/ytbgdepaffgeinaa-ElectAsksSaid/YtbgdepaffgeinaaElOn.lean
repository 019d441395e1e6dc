/- would; OnAsk. -/
import Derived.Test.YtbgdepaffgeinaaElAskP
namespace Go.Proofs.Ytbgdepaffgeinaa
open Go.RowKit
def mval (k f d : Int) (t i q : Nat) (c : Value) (ok : Bool) (D E : Value) : Value := .agg #[.int .i64 k, .int .i64 f, .int .i64 d, .int .u64 (t : Int), .int .u64 (i : Int), .int .u64 (q : Int), c, .bool ok, D, E]
def mrow (k f d : Int) (t i q : Nat) (c : Value) (ok : Bool) (D E : Value) : Array Value := #[.int .i64 k, .int .i64 f, .int .i64 d, .int .u64 (t : Int), .int .u64 (i : Int), .int .u64 (q : Int), c, .bool ok, D, E]
def ND.would (x : ND) (f : Int) (t : Nat) : Bool := decide (t = x.term) && (decide (x.vote = -1) || decide (x.vote = f)) && decide (x.role = 0)
section
variable {H : Nat} {O : Nat → Prop} {b : Nat} {p : NP} {x : ND}
set_option maxRecDepth 100000 in
set_option maxHeartbeats 1600000 in
theorem would_pre (f d : Int) (t i q : Nat) (c : Value) (ok : Bool) (D E : Value) (w : World) (hB : Blk w b 75 (p.cells x)) {r : Bool} (hr : (decide (x.term < t) && !x.heard) = r) :
    Calls Try.prog 73 #[.pointer (some ⟨b, 0, none⟩), mval 3 f d t i q c ok D E] w fun e w' => e = .returned (.bool r) ∧ Below w.heap.size w w' := by
  have x6 : w.cell? ⟨b, 6, none⟩ = some (.int .u64 (x.term : Int)) := hB.cell 6
  have x11 : w.cell? ⟨b, 11, none⟩ = some (.bool x.heard) := hB.cell 11
  have hbl := hB.lt
  have hne : b ≠ w.heap.size := by omega
  have HR := Lib.hid hr
  clear hB hr
  unfold mval
  generalize x.heard = hd at x11 HR
  by_cases hlt : x.term < t
  · have hlt' : (x.term : Int) < (t : Int) := by omega
    have e : r = !hd := by rw [← HR.out, decide_eq_true hlt]; rfl
    subst e
    go_enter Try.func73, Try.ntmps73
    go_wp2
    go_quiet (fail)
    go_wp2
    go_ret
    exact ⟨by first | rfl | simp, below_drewN ((Below.refl _ w).alloc (Nat.le_refl _) _) _⟩
  · have hlt' : ¬ (x.term : Int) < (t : Int) := by omega
    have e : r = false := by rw [← HR.out, decide_eq_false hlt]; rfl
    subst e
    go_enter Try.func73, Try.ntmps73
    go_wp2
    go_quiet (fail)
    go_wp2
    go_ret
    exact ⟨by first | rfl | simp, below_drewN ((Below.refl _ w).alloc (Nat.le_refl _) _) _⟩
set_option maxRecDepth 100000 in
set_option maxHeartbeats 3200000 in
theorem would_vote (f d : Int) (t i q : Nat) (c : Value) (ok : Bool) (D E : Value) (w : World) (hB : Blk w b 75 (p.cells x)) {r : Bool} (hr : x.would f t = r) :
    Calls Try.prog 73 #[.pointer (some ⟨b, 0, none⟩), mval 1 f d t i q c ok D E] w fun e w' => e = .returned (.bool r) ∧ Below w.heap.size w w' := by
  have x6 : w.cell? ⟨b, 6, none⟩ = some (.int .u64 (x.term : Int)) := hB.cell 6
  have x1 : w.cell? ⟨b, 1, none⟩ = some (.int .i64 x.vote) := hB.cell 1
  have x2 : w.cell? ⟨b, 2, none⟩ = some (.int .i64 x.role) := hB.cell 2
  have hbl := hB.lt
  have hne : b ≠ w.heap.size := by omega
  have HR := Lib.hid hr
  clear hB hr
  unfold mval
  unfold ND.would at HR
  generalize x.vote = vt at x1 HR
  generalize x.role = rl at x2 HR
  generalize x.term = tm at x6 HR
  have HD3 : Hid ((rl == 0) = decide (rl = 0)) := rfl
  by_cases h1 : t = tm
  · subst h1
    have e1 : ((t : Int) == (t : Int)) = true := by simp
    by_cases h2 : vt = -1
    · subst h2
      have e : r = (rl == 0) := by rw [← HR.out, HD3.out]; simp
      subst e
      go_enter Try.func73, Try.ntmps73
      go_wp2
      go_quiet (fail)
      go_wp2
      go_ret
      exact ⟨by first | rfl | simp, below_drewN ((Below.refl _ w).alloc (Nat.le_refl _) _) _⟩
    · have e2 : (vt == -1) = false := by simp [h2]
      by_cases h3 : vt = f
      · subst h3
        have e : r = (rl == 0) := by rw [← HR.out, HD3.out]; simp
        subst e
        go_enter Try.func73, Try.ntmps73
        go_wp2
        go_quiet (fail)
        go_wp2
        go_ret
        exact ⟨by first | rfl | simp, below_drewN ((Below.refl _ w).alloc (Nat.le_refl _) _) _⟩
      · have e3 : (vt == f) = false := by simp [h3]
        have e : r = false := by rw [← HR.out]; simp [h2, h3]
        subst e
        go_enter Try.func73, Try.ntmps73
        go_wp2
        go_quiet (fail)
        go_wp2
        go_ret
        exact ⟨by first | rfl | simp, below_drewN ((Below.refl _ w).alloc (Nat.le_refl _) _) _⟩
  · have e1 : ((t : Int) == (tm : Int)) = false := by simp; omega
    have e : r = false := by rw [← HR.out, decide_eq_false h1]; rfl
    subst e
    go_enter Try.func73, Try.ntmps73
    go_wp2
    go_quiet (fail)
    go_wp2
    go_ret
    exact ⟨by first | rfl | simp, below_drewN ((Below.refl _ w).alloc (Nat.le_refl _) _) _⟩
end
end Go.Proofs.Ytbgdepaffgeinaa
