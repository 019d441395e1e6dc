/- Numbers that a clock has handed out. -/
import Derived.Test.YtcocakbopbehjaaClkNew
namespace Go.Proofs.Ytcocakbopbehjaa
open Go.RowKit
structure Res (w : World) (O : Nat → Prop) (v : Value) (l : List Tm) : Prop where
  own : w.ownsRow 0 3 1 v l.length (ids l)
  off : ∀ b, v.ownBlock = some b → ¬ O b
section
variable {w w1 : World} {O O' : Nat → Prop} {v : Value} {l : List Tm}
theorem Res.chg (h : Res w O v l) (hc : Chg O w w1) (hs : Sub O w O') : Res w1 O' v l :=
  ⟨own_chg h.own hc h.off, fun b hb hO => by
    rcases hs b hO with h1 | h1
    · exact h.off b hb h1
    · have := (h.own.lt b hb).2; omega⟩
/-- against whatever blocks below it -/
theorem Res.fresh {H : Nat} {g : Nat} {ns : List PN} (h : w.ownsRow w1.heap.size 3 1 v l.length (ids l)) (hK : ClkAt H w1 O g ns) : Res w O v l :=
  ⟨own_wide h (Nat.zero_le _), fun b hb hO => by have := (h.lt b hb).1; have := hK.top b hO; omega⟩
theorem Res.below (h : Res w O v l) (hb : Below w.heap.size w w1) : Res w1 O v l := ⟨own_after h.own hb, h.off⟩
theorem Res.sl {A : Option Addr} {n c : Nat} (h : Res w O (.slice A n c) l) : Sl w 0 w.heap.size 1 A n c ((l.map (·.1)).map (Value.int .i64)) := by
  obtain ⟨A', c', hv, hs⟩ := own_sl h.own
  injection hv with e1 e2 e3
  subst e1 e2 e3
  have e : ids l = (l.map (·.1)).map (Value.int .i64) := by unfold ids; rw [List.map_map]; rfl
  rw [← e]
  exact hs
end
theorem cdrift_eq {H : Nat} {O : Nat → Prop} {g : Nat} {ns : List PN} (D : Nat) (w : World) (h : ClkAt H w O g ns) (hn : 0 < ns.length) (hn2 : ns.length ≤ 100) (hD : driftN (ns.map PN.now) = D) :
    Calls Try.prog 23 #[.pointer (some ⟨g, 0, none⟩)] w fun e w' => e = .returned (.int .u64 (D : Int)) ∧ ∃ q, w' = w.drewN q := by
  have := cdrift_any w h hn hn2
  rwa [hD] at this
theorem numbers_eq {A B : Option Addr} {n m c d lo hi lo' hi' : Nat} (xs ys : List Int) (w : World) (b : Bool) (ha : Sl w lo hi 1 A n c (xs.map (Value.int .i64))) (hb : Sl w lo' hi' 1 B m d (ys.map (Value.int .i64))) (h : (xs == ys) = b) :
    Calls Try.prog 16 #[.slice A n c, .slice B m d] w fun e w' => e = .returned (.bool b) ∧ ∃ q, w' = w.drewN q := by
  have := numbers_any A B n m c d lo hi lo' hi' xs ys w ha hb
  rwa [h] at this
section
variable {H : Nat} {O : Nat → Prop} {g : Nat} {ns : List PN}
theorem cdue_eq (i : Nat) (w : World) (h : ClkAt H w O g ns) {p : PN} (hi : ns[i]? = some p) (hp : p.paused = false) {l r : List Tm} (hl : tsort (lates p) = l) (hr : rests p = r) {ns' : List PN} (hns : ns.set i ⟨p.now, r, p.paused⟩ = ns') :
    Calls Try.prog 13 #[.pointer (some ⟨g, 0, none⟩), .int .i64 (i : Int)] w fun e w' => ∃ v O', e = .returned v ∧ Res w' O' v l ∧ ClkAt H w' O' g ns' ∧ Sub O w O' ∧ Chg O w w' ∧ ∀ b, v.ownBlock = some b → w.heap.size ≤ b := by
  refine (cdue_ok i w h hi hp).mono ?_
  rintro e w' ⟨v, O', rfl, h1, h2, h3, h4, h5⟩
  have e1 : (lates p).length = l.length := by rw [← hl, tsort_len]
  rw [hl, e1] at h1
  rw [hr, hns] at h2
  exact ⟨v, O', rfl, ⟨own_wide h1 (Nat.zero_le _), h5⟩, h2, h3, h4, fun b hb => (h1.lt b hb).1⟩
theorem ctick_eq (i a : Nat) (w : World) (h : ClkAt H w O g ns) {p : PN} (hi : ns[i]? = some p) {t : Nat} (ht : p.now + a = t) (hf : t < 18446744073709551616) {ns' : List PN} (hns : ns.set i ⟨t, p.ts, p.paused⟩ = ns') :
    Calls Try.prog 11 #[.pointer (some ⟨g, 0, none⟩), .int .i64 (i : Int), .int .u64 (a : Int)] w fun e w' => e = .returned (.int .i64 0) ∧ ∃ O', ClkAt H w' O' g ns' ∧ Sub O w O' ∧ Chg O w w' := by
  subst ht hns
  exact ctick_ok i a w h hi hf
theorem cset_eq (i : Nat) (id : Int) (a : Nat) (w : World) (h : ClkAt H w O g ns) {p p' : PN} {E : Nat} (hi : ns[i]? = some p) (ha : a < 18446744073709551616) (hset : p.set id a = (p', E)) {ns' : List PN} (hns : ns.set i p' = ns') :
    Calls Try.prog 10 #[.pointer (some ⟨g, 0, none⟩), .int .i64 (i : Int), .int .i64 id, .int .u64 (a : Int)] w fun e w' => e = .returned (.int .i64 (E : Int)) ∧ ∃ O', ClkAt H w' O' g ns' ∧ Sub O w O' ∧ Chg O w w' := by
  subst hns
  exact cset_any i id a w h hi ha hset
theorem cstop_eq (i : Nat) (id : Int) (w : World) (h : ClkAt H w O g ns) {p p' : PN} {E : Nat} (hi : ns[i]? = some p) (hstop : p.stop id = (p', E)) {ns' : List PN} (hns : ns.set i p' = ns') :
    Calls Try.prog 15 #[.pointer (some ⟨g, 0, none⟩), .int .i64 (i : Int), .int .i64 id] w fun e w' => e = .returned (.int .i64 (E : Int)) ∧ ∃ O', ClkAt H w' O' g ns' ∧ Sub O w O' ∧ Chg O w w' := by
  subst hns
  exact cstop_any i id w h hi hstop
end
end Go.Proofs.Ytcocakbopbehjaa
