import Derived.Test.YtbgdepaffgeinaaEzLast
import Derived.Deep.QuietTactic
import Derived.BigQuiet
namespace Go.Proofs.Ytbgdepaffgeinaa
open Go.RowKit

/-- the entries' bytes read -/
def EData (w : World) (es : List Ent) : Prop := ∀ e ∈ es, Bytes w (.slice e.A e.l.length e.c) e.l
theorem EData.after {w w' : World} {es : List Ent} (h : EData w es) (hb : Below w.heap.size w w') : EData w' es := fun e he => (h e he).after hb
theorem EData.alloc {w : World} {es : List Ent} (h : EData w es) (o : Obj) : EData (w.alloc o) es := fun e he => (h e he).alloc o
theorem EData.drewN {w : World} {es : List Ent} (h : EData w es) (q : Nat) : EData (w.drewN q) es := fun e he => (h e he).drewN q
theorem EData.sub {w : World} {es fs : List Ent} (h : EData w es) (hs : ∀ e ∈ fs, e ∈ es) : EData w fs := fun e he => h e (hs e he)
theorem EData.append {w : World} {es fs : List Ent} (h : EData w es) (hf : EData w fs) : EData w (es ++ fs) := fun e he => (List.mem_append.1 he).elim (h e) (hf e)
/-- what is compared of an entry -/
def Ent.key (e : Ent) : Nat × Int × List UInt8 := (e.t, e.k, e.l)

set_option maxRecDepth 100000 in
set_option maxHeartbeats 1000000 in
theorem entries_any (A B : Option Addr) (n m c d lo hi lo' hi' : Nat) (es fs : List Ent) (w : World) (ha : Sl w lo hi 3 A n c (ecells es)) (hb : Sl w lo' hi' 3 B m d (ecells fs)) (hae : EData w es) (hbe : EData w fs) (hk : es.map Ent.key = fs.map Ent.key) :
    Calls Try.prog 24 #[.slice A n c, .slice B m d] w fun e w' => e = .returned (.bool true) ∧ ∃ q, w' = w.drewN q := by
  have h1 : es.length = n := by have := ha.len; rw [ecells_len] at this; omega
  have h2 : fs.length = m := by have := hb.len; rw [ecells_len] at this; omega
  have h3 : es.length = fs.length := by simpa using congrArg List.length hk
  have h4 : n = m := by omega
  subst h4
  have hcap := ha.cap
  have hmax := ha.max
  have HK := Lib.hid hk
  clear hk h1 h2 h3
  go_enter Try.func24, Try.ntmps24
  go_wp2
  go_loopw [5] (fun i wr => ∃ k q : Nat, k ≤ n ∧ i = .int .i64 k ∧ wr = w.drewN q) (fun i _ => n - (intOf i).toNat)
  case atStart => exact ⟨0, 0, Nat.zero_le _, rfl, rfl⟩
  case round =>
    obtain ⟨k, q, hk, rfl, hq⟩ := hrel
    replace ha : Sl wr lo hi 3 A n c (ecells es) := by rw [hq]; exact ha.drewN q
    replace hb : Sl wr lo' hi' 3 B n d (ecells fs) := by rw [hq]; exact hb.drewN q
    replace hae : EData wr es := by rw [hq]; exact hae.drewN q
    replace hbe : EData wr fs := by rw [hq]; exact hbe.drewN q
    have HQ := Lib.hid hq
    clear hq
    by_cases hlt : k < n
    · obtain ⟨ad, x, rfl, hx, c0, c1, c2⟩ := ha.ent hlt
      obtain ⟨bd, y, rfl, hy, d0, d1, d2⟩ := hb.ent hlt
      have hxy : x.key = y.key := by
        have := congrArg (fun l => l[k]?) HK.out
        simpa [hx, hy] using this
      have bx := hae x (List.mem_of_getElem? hx)
      have by_ := hbe y (List.mem_of_getElem? hy)
      obtain ⟨xt, xk, xA, xc, xl⟩ := x
      obtain ⟨yt, yk, yA, yc, yl⟩ := y
      simp only [Ent.key, Prod.mk.injEq] at hxy
      obtain ⟨rfl, rfl, rfl⟩ := hxy
      have BX := Lib.hid bx
      have BY := Lib.hid by_
      clear hx hy ha hb hae hbe bx by_
      simp only at c0 c1 c2 d0 d1 d2
      have n1 : ((xt : Int) != (xt : Int)) = false := by simp
      have n2 : (xk != xk) = false := by simp
      go_wp2
      go_quiet ((go_at_call 53; exact Calls.quiet_of (same_quiet (b := true) (BX.out.drewN _) (BY.out.drewN _) (by simp))))
      go_wp2
      go_roundw
      case rel => exact ⟨k + 1, q + nq, by omega, by go_num, by rw [HQ.out, World.drewN_drewN]⟩
      case measure => simp [intOf]; omega
    · go_wp2
      go_ret
      exact ⟨rfl, q, HQ.out⟩
end Go.Proofs.Ytbgdepaffgeinaa
