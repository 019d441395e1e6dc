/- counts: is an answer one more yes? -/
import Derived.Test.YtbgdepaffgeinaaElOn
namespace Go.Proofs.Ytbgdepaffgeinaa
open Go.RowKit
theorem quiet_of_sum {P : Program} {f : FuncId} {args : Array Value} {w : World} {a n : Nat} {v : Value}
    (h : Calls P f args (w.drewN (a + n)) fun e w' => e = .returned v ∧ ∃ m, w' = (w.drewN (a + n)).drewN m) : Calls P f args (w.drewN (a + n)) fun e w'' => e = .returned v ∧ ∃ m, w'' = w.drewN (a + m) :=
  h.mono fun _ _ ⟨he, m, hm⟩ => ⟨he, n + m, by rw [hm, World.drewN_drewN, Nat.add_assoc]⟩
section
variable {H : Nat} {O : Nat → Prop} {b : Nat} {p : NP} {x : ND}
set_option maxRecDepth 100000 in
set_option maxHeartbeats 6400000 in
theorem counts_real (f d : Int) (t i q : Nat) (c : Value) (ok : Bool) (D E : Value) (w : World) (h : NodeP H w O b p x) (hok : x.Ok) {r : Bool} (hr : x.counts 2 f t ok = r) :
    Calls Try.prog 74 #[.pointer (some ⟨b, 0, none⟩), mval 2 f d t i q c ok D E] w fun e w' => e = .returned (.bool r) ∧ Below w.heap.size w w' := by
  have hB := h.blk
  have x2 : w.cell? ⟨b, 2, none⟩ = some (.int .i64 x.role) := hB.cell 2
  have x6 : w.cell? ⟨b, 6, none⟩ = some (.int .u64 (x.term : Int)) := hB.cell 6
  have x4 : w.cell? ⟨b, 4, none⟩ = some (.slice p.cA x.conf.length p.cc) := hB.cell 4
  have x5 : w.cell? ⟨b, 5, none⟩ = some p.yv := hB.cell 5
  obtain ⟨Ay, cy, hvy, hsy⟩ := own_sl h.yes
  rw [hvy] at x5
  obtain ⟨Ac, cc', hvc, hsc⟩ := own_sl h.conf
  unfold NP.cv at hvc
  injection hvc with e1 e2 e3
  clear e2
  subst e1 e3
  have hbl := hB.lt
  have hne : b ≠ w.heap.size := by omega
  have hterm := hok.term
  have hw : IntKind.u64.wrap ((x.term : Int) + 1) = (x.term : Int) + 1 := by rw [IntKind.wrap_u64]; omega
  have HB0 : Hid (Below w.heap.size w (w.alloc (.cells (mrow 2 f d t i q c ok D E) 81))) := (Below.refl _ w).alloc (Nat.le_refl _) _
  have HSC : Hid (∀ W, Below w.heap.size w W → Sl W 0 w.heap.size 1 p.cA x.conf.length p.cc (x.conf.map iv)) := fun W hW => hsc.after (by decide) hW
  have HSY : Hid (∀ W, Below w.heap.size w W → Sl W 0 w.heap.size 1 Ay x.yes.length cy (x.yes.map iv)) := fun W hW => hsy.after (by decide) hW
  have HR := Lib.hid hr
  clear hB h hok hr hsy hsc hvy
  unfold mrow at HB0
  unfold mval
  unfold ND.counts at HR
  generalize p.cA = cA at *
  generalize p.cc = pc at *
  generalize x.conf.length = cn at *
  generalize x.yes.length = yn at *
  generalize x.conf = cf at *
  generalize x.yes = ys at *
  generalize x.role = rl at *
  generalize x.term = tm at *
  by_cases h1 : rl = 2
  · subst h1
    by_cases h2 : t = tm
    · subst h2
      have e1 : ((t : Int) == (t : Int)) = true := by simp
      cases ok with
      | false =>
        have e : r = false := by rw [← HR.out]; simp
        subst e
        go_enter Try.func74, Try.ntmps74
        go_wp2
        go_quiet (fail)
        go_wp2
        go_quiet (fail)
        go_wp2
        go_quiet (fail)
        go_wp2
        go_ret
        exact ⟨by first | rfl | simp, by first | exact below_drewN ((Below.refl _ w).alloc (Nat.le_refl _) _) _ | exact below_drewN (below_drewN (below_drewN ((Below.refl _ w).alloc (Nat.le_refl _) _) _) _) _⟩
      | true =>
        cases hc : cf.contains f with
        | false =>
          have e : r = false := by rw [← HR.out, hc]; simp
          have HC := Lib.hid hc
          clear hc
          subst e
          go_enter Try.func74, Try.ntmps74
          go_wp2
          go_quiet (fail)
          go_wp2
          go_quiet (fail)
          go_wp2
          go_quiet (((go_at_call 61; with_reducible first | exact quiet_of_sum (contains_quiet (HSC.out _ (below_drewN HB0.out _)) HC.out) | exact Calls.quiet_of (contains_quiet (HSC.out _ (below_drewN (below_drewN (below_drewN HB0.out _) _) _)) HC.out))))
          go_wp2
          go_ret
          exact ⟨by first | rfl | simp, by first | exact below_drewN ((Below.refl _ w).alloc (Nat.le_refl _) _) _ | exact below_drewN (below_drewN (below_drewN ((Below.refl _ w).alloc (Nat.le_refl _) _) _) _) _⟩
        | true =>
          have e : r = !ys.contains f := by rw [← HR.out, hc]; simp
          have HC := Lib.hid hc
          clear hc
          subst e
          clear HR
          generalize hy : ys.contains f = yb
          have HY := Lib.hid hy
          clear hy
          go_enter Try.func74, Try.ntmps74
          go_wp2
          go_quiet (fail)
          go_wp2
          go_quiet (fail)
          go_wp2
          go_quiet (first | (go_at_call 61; with_reducible first | exact quiet_of_sum (contains_quiet (HSC.out _ (below_drewN HB0.out _)) HC.out) | exact Calls.quiet_of (contains_quiet (HSC.out _ (below_drewN (below_drewN (below_drewN HB0.out _) _) _)) HC.out)) | (go_at_call 61; with_reducible first | exact quiet_of_sum (contains_quiet (HSY.out _ (below_drewN HB0.out _)) HY.out) | exact Calls.quiet_of (contains_quiet (HSY.out _ (below_drewN (below_drewN (below_drewN HB0.out _) _) _)) HY.out)))
          go_wp2
          go_ret
          exact ⟨by first | rfl | simp, by first | exact below_drewN ((Below.refl _ w).alloc (Nat.le_refl _) _) _ | exact below_drewN (below_drewN (below_drewN ((Below.refl _ w).alloc (Nat.le_refl _) _) _) _) _⟩
    · have e1 : ((t : Int) == (tm : Int)) = false := by simp; omega
      have H2 := Lib.hid h2
      clear h2
      cases ok with
      | false =>
        have e : r = false := by rw [← HR.out]; simp [H2.out]
        subst e
        go_enter Try.func74, Try.ntmps74
        go_wp2
        go_quiet (fail)
        go_wp2
        go_quiet (fail)
        go_wp2
        go_quiet (fail)
        go_wp2
        go_ret
        exact ⟨by first | rfl | simp, by first | exact below_drewN ((Below.refl _ w).alloc (Nat.le_refl _) _) _ | exact below_drewN (below_drewN (below_drewN ((Below.refl _ w).alloc (Nat.le_refl _) _) _) _) _⟩
      | true =>
        have e : r = false := by rw [← HR.out]; simp [H2.out]
        subst e
        go_enter Try.func74, Try.ntmps74
        go_wp2
        go_quiet (fail)
        go_wp2
        go_quiet (fail)
        go_wp2
        go_quiet (fail)
        go_wp2
        go_ret
        exact ⟨by first | rfl | simp, by first | exact below_drewN ((Below.refl _ w).alloc (Nat.le_refl _) _) _ | exact below_drewN (below_drewN (below_drewN ((Below.refl _ w).alloc (Nat.le_refl _) _) _) _) _⟩
  · have e1 : (rl == 2) = false := by simp [h1]
    by_cases h2 : rl = 1
    · subst h2
      cases ok with
      | false =>
        have e : r = false := by rw [← HR.out]; simp []
        subst e
        go_enter Try.func74, Try.ntmps74
        go_wp2
        go_quiet (fail)
        go_wp2
        go_quiet (fail)
        go_wp2
        go_quiet (fail)
        go_wp2
        go_ret
        exact ⟨by first | rfl | simp, by first | exact below_drewN ((Below.refl _ w).alloc (Nat.le_refl _) _) _ | exact below_drewN (below_drewN (below_drewN ((Below.refl _ w).alloc (Nat.le_refl _) _) _) _) _⟩
      | true =>
        have e : r = false := by rw [← HR.out]; simp []
        subst e
        go_enter Try.func74, Try.ntmps74
        go_wp2
        go_quiet (fail)
        go_wp2
        go_quiet (fail)
        go_wp2
        go_quiet (fail)
        go_wp2
        go_ret
        exact ⟨by first | rfl | simp, by first | exact below_drewN ((Below.refl _ w).alloc (Nat.le_refl _) _) _ | exact below_drewN (below_drewN (below_drewN ((Below.refl _ w).alloc (Nat.le_refl _) _) _) _) _⟩
    · have e2 : (rl == 1) = false := by simp [h2]
      have H1 := Lib.hid h1
      clear h1 h2
      cases ok with
      | false =>
        have e : r = false := by rw [← HR.out]; simp [H1.out]
        subst e
        go_enter Try.func74, Try.ntmps74
        go_wp2
        go_quiet (fail)
        go_wp2
        go_quiet (fail)
        go_wp2
        go_quiet (fail)
        go_wp2
        go_ret
        exact ⟨by first | rfl | simp, by first | exact below_drewN ((Below.refl _ w).alloc (Nat.le_refl _) _) _ | exact below_drewN (below_drewN (below_drewN ((Below.refl _ w).alloc (Nat.le_refl _) _) _) _) _⟩
      | true =>
        have e : r = false := by rw [← HR.out]; simp [H1.out]
        subst e
        go_enter Try.func74, Try.ntmps74
        go_wp2
        go_quiet (fail)
        go_wp2
        go_quiet (fail)
        go_wp2
        go_quiet (fail)
        go_wp2
        go_ret
        exact ⟨by first | rfl | simp, by first | exact below_drewN ((Below.refl _ w).alloc (Nat.le_refl _) _) _ | exact below_drewN (below_drewN (below_drewN ((Below.refl _ w).alloc (Nat.le_refl _) _) _) _) _⟩
end
end Go.Proofs.Ytbgdepaffgeinaa
