import Derived.WalkKit
import Derived.Deep.AppendLies
import Derived.Deep.Draws
import Derived.Lib.Hide
import Derived.Test.YtbgdepaffgeinaaProg
import Derived.Deep.QuietTactic
import Derived.BigQuiet
import Derived.Maps.AppendAt
import Derived.RegionTactic
import Derived.OwnWalk
import Derived.Laws.Rows
/- Memory words for the walks: a slice that reads as a list; a block known whole; frames. -/
namespace Go.Proofs.Ytbgdepaffgeinaa
open Go.RowKit

theorem block_of_add (a : Addr) (n : Nat) : (a.add n).block = a.block := by unfold Addr.add; split <;> rfl
theorem add_of_add (a : Addr) (i j : Nat) : (a.add i).add j = a.add (i + j) := by
  unfold Addr.add
  by_cases hi : i = 0 <;> by_cases hj : j = 0 <;> simp [hi, hj, Nat.add_assoc]

/-- The slice value '.slice A n c' holds the cells xs ('size' cells an element), in a block from lo to below hi. -/
structure Sl (w : World) (lo hi size : Nat) (A : Option Addr) (n c : Nat) (xs : List Value) : Prop where
  len : xs.length = n * size
  cap : n ≤ c
  max : c ≤ 9223372036854775807
  at_ : 0 < n → ∃ ad, A = some ad ∧ lo ≤ ad.block ∧ ad.block < hi ∧ ∀ j u, xs[j]? = some u → w.cell? (ad.add j) = some u

section
variable {w w' : World} {lo hi lo' hi' size n c : Nat} {A : Option Addr} {xs : List Value}
theorem Sl.nil_ (w : World) (lo hi size : Nat) : Sl w lo hi size none 0 0 [] := ⟨by simp, by omega, by omega, fun h => absurd h (by omega)⟩
theorem Sl.keep (h : Sl w lo hi size A n c xs) (hk : ∀ p : Addr, lo ≤ p.block → p.block < hi → w'.cell? p = w.cell? p) : Sl w' lo hi size A n c xs :=
  ⟨h.len, h.cap, h.max, fun hn => by
    obtain ⟨ad, e, hl, hh, hc⟩ := h.at_ hn
    exact ⟨ad, e, hl, hh, fun j u hu => (hk _ (by rw [block_of_add]; exact hl) (by rw [block_of_add]; exact hh)).trans (hc j u hu)⟩⟩
theorem Sl.wide (h : Sl w lo hi size A n c xs) (hl : lo' ≤ lo) (hh : hi ≤ hi') : Sl w lo' hi' size A n c xs :=
  ⟨h.len, h.cap, h.max, fun hn => by
    obtain ⟨ad, e, h1, h2, hc⟩ := h.at_ hn
    exact ⟨ad, e, by omega, by omega, hc⟩⟩
theorem Sl.lt (h : Sl w lo hi size A n c xs) (hs : 0 < size) {ad : Addr} (hn : 0 < n) (e : A = some ad) : ad.block < w.heap.size := by
  obtain ⟨ad', e', _, _, hc⟩ := h.at_ hn
  rw [e] at e'
  injection e' with e'
  subst e'
  have hl : 0 < xs.length := by rw [h.len]; exact Nat.mul_pos hn hs
  have := World.block_lt_of_cell? w _ (hc 0 _ (List.getElem?_eq_getElem hl))
  rwa [block_of_add] at this
theorem Sl.now (h : Sl w lo hi size A n c xs) (hs : 0 < size) : Sl w lo w.heap.size size A n c xs :=
  ⟨h.len, h.cap, h.max, fun hn => by
    obtain ⟨ad, e, h1, h2, hc⟩ := h.at_ hn
    exact ⟨ad, e, h1, h.lt hs hn e, hc⟩⟩
theorem Sl.hold (h : Sl w lo hi size A n c xs) (hs : 0 < size) (hk : ∀ p : Addr, p.block < w.heap.size → lo ≤ p.block → p.block < hi → w'.cell? p = w.cell? p) : Sl w' lo hi size A n c xs :=
  ⟨h.len, h.cap, h.max, fun hn => by
    obtain ⟨ad, e, hl, hh, hc⟩ := h.at_ hn
    exact ⟨ad, e, hl, hh, fun j u hu => (hk _ (by rw [block_of_add]; exact h.lt hs hn e) (by rw [block_of_add]; exact hl) (by rw [block_of_add]; exact hh)).trans (hc j u hu)⟩⟩
theorem Sl.after (h : Sl w lo hi size A n c xs) (hs : 0 < size) (hb : Below w.heap.size w w') : Sl w' lo hi size A n c xs :=
  h.hold hs fun _ hp _ _ => hb.cell hp
theorem Sl.below {B : Nat} (h : Sl w lo hi size A n c xs) (hb : Below B w w') (hB : hi ≤ B) : Sl w' lo hi size A n c xs :=
  h.keep fun _ _ hp => hb.cell (by omega)
theorem Sl.drew (h : Sl w lo hi size A n c xs) : Sl w.drew lo hi size A n c xs := h.keep fun _ _ _ => rfl
theorem Sl.drewN (h : Sl w lo hi size A n c xs) (k : Nat) : Sl (w.drewN k) lo hi size A n c xs := h.keep fun _ _ _ => rfl
theorem Sl.alloc (h : Sl w lo hi size A n c xs) (hs : 0 < size) (o : Obj) : Sl (w.alloc o) lo hi size A n c xs :=
  h.hold hs fun p hp _ _ => World.cell?_alloc_lt w o p hp
theorem Sl.setCell (h : Sl w lo hi size A n c xs) {p : Addr} (hp : p.block < lo ∨ hi ≤ p.block) (u : Value) : Sl (w.setCell p u) lo hi size A n c xs :=
  h.keep fun q h1 h2 => World.cell?_setCell_other w p q u (fun e => by subst e; omega)
theorem Sl.grown {row : Option Nat} (h : Sl w lo hi size A n c xs) (hs : 0 < size) (hg : w.grownBy w' row) (hr : ∀ g, row = some g → g < lo ∨ hi ≤ g) : Sl w' lo hi size A n c xs :=
  h.hold hs fun p hp h1 h2 => World.cell?_of_block (hg.block p.block hp (fun e => by have := hr _ e.symm; omega))
theorem Sl.nilA (h : Sl w lo hi size none n c xs) : n = 0 ∧ xs = [] := by
  have hn : n = 0 := by
    rcases Nat.eq_zero_or_pos n with h0 | h0
    · exact h0
    · obtain ⟨ad, e, _⟩ := h.at_ h0
      cases e
  exact ⟨hn, List.eq_nil_of_length_eq_zero (by rw [h.len, hn, Nat.zero_mul])⟩
/-- a piece of it: from k on, m elements, in any capacity -/
theorem Sl.sub {A' : Option Addr} {k m c' : Nat} (h : Sl w lo hi size A n c xs) (hk : k + m ≤ n) (hm : m ≤ c') (hc : c' ≤ 9223372036854775807) (hA : 0 < m → A' = A.map (·.add (k * size))) :
    Sl w lo hi size A' m c' ((xs.drop (k * size)).take (m * size)) := by
  have hmul : k * size + m * size ≤ n * size := by rw [← Nat.add_mul]; exact Nat.mul_le_mul_right _ hk
  refine ⟨by rw [List.length_take, List.length_drop, h.len]; omega, hm, hc, fun hpos => ?_⟩
  obtain ⟨ad, e, hl, hh, hcell⟩ := h.at_ (by omega)
  subst e
  refine ⟨ad.add (k * size), hA hpos, by rw [block_of_add]; exact hl, by rw [block_of_add]; exact hh, fun j u hu => ?_⟩
  rw [add_of_add]
  rw [List.getElem?_take] at hu
  split at hu
  · exact hcell _ u (by rw [← hu, List.getElem?_drop])
  · cases hu
theorem Sl.nth {k : Nat} (h : Sl w lo hi 1 A n c xs) (hk : k < n) : ∃ ad u, A = some ad ∧ xs[k]? = some u ∧ w.cell? (ad.add k) = some u := by
  obtain ⟨ad, e, _, _, hc⟩ := h.at_ (by omega)
  have hl : k < xs.length := by have := h.len; omega
  exact ⟨ad, xs[k], e, List.getElem?_eq_getElem hl, hc k _ (List.getElem?_eq_getElem hl)⟩
end
end Go.Proofs.Ytbgdepaffgeinaa

namespace Go.Proofs.Ytbgdepaffgeinaa
open Go.RowKit

def bv (b : UInt8) : Value := .int .u8 (b.toNat : Int)

theorem take_next {xs ys : List UInt8} {k : Nat} (hx : k < xs.length) (hy : k < ys.length) (h : xs.take k = ys.take k) (e : xs[k] = ys[k]) : xs.take (k + 1) = ys.take (k + 1) := by
  rw [List.take_succ_eq_append_getElem hx, List.take_succ_eq_append_getElem hy, h, e]

theorem Sl.byte {w : World} {lo hi n c : Nat} {A : Option Addr} {xs : List UInt8} {k : Nat} (h : Sl w lo hi 1 A n c (xs.map bv)) (hk : k < n) :
    ∃ ad b, A = some ad ∧ xs[k]? = some b ∧ w.cell? (ad.add k) = some (.int .u8 (b.toNat : Int)) := by
  obtain ⟨ad, u, e, hx, hc⟩ := h.nth hk
  rw [List.getElem?_map] at hx
  match hb : xs[k]?, hx with
  | some b, hx => exact ⟨ad, b, e, rfl, by rw [hc]; simpa [bv] using hx.symm⟩

set_option maxHeartbeats 400000 in
theorem same_any (A B : Option Addr) (n m c d lo hi lo' hi' : Nat) (xs ys : List UInt8) (w : World) (ha : Sl w lo hi 1 A n c (xs.map bv)) (hb : Sl w lo' hi' 1 B m d (ys.map bv)) :
    Calls Try.prog 53 #[.slice A n c, .slice B m d] w fun e w' => e = .returned (.bool (xs == ys)) ∧ ∃ q, w' = w.drewN q := by
  have hn := ha.len
  have hm := hb.len
  simp only [List.length_map, Nat.mul_one] at hn hm
  have b1 := ha.cap
  have b2 := ha.max
  by_cases h : n = m
  · obtain rfl := h
    have Hn := Lib.hid hn
    have Hm := Lib.hid hm
    clear hn hm
    go_enter Try.func53, Try.ntmps53
    go_wp2
    go_loopw [5] (fun i wr => ∃ k q : Nat, k ≤ n ∧ i = .int .i64 k ∧ xs.take k = ys.take k ∧ wr = w.drewN q) (fun i _ => n - (intOf i).toNat)
    case atStart => exact ⟨0, 0, Nat.zero_le _, rfl, rfl, rfl⟩
    case round =>
      obtain ⟨k, q, hk, rfl, ht, rfl⟩ := hrel
      have Ht := Lib.hid ht
      clear ht
      by_cases hlt : k < n
      · obtain ⟨ad, x, rfl, hx, hcx⟩ := ha.byte hlt
        obtain ⟨bd, y, rfl, hy, hcy⟩ := hb.byte hlt
        have Hx := Lib.hid hx
        have Hy := Lib.hid hy
        clear hx hy ha hb
        go_wp2
        go_quiet (fail)
        go_wp2
        · have hne : ((x.toNat : Int) != (y.toNat : Int)) = true := by assumption
          go_ret
          refine ⟨congrArg (fun b => Ending.returned (.bool b)) (beq_eq_false_iff_ne.2 fun e => ?_).symm, q + nq, by simp⟩
          rw [e] at Hx
          rw [Hx.out] at Hy
          simp [Option.some.inj Hy.out] at hne
        · have heq : ((x.toNat : Int) != (y.toNat : Int)) = false := by assumption
          go_roundw
          case rel =>
            refine ⟨k + 1, q + nq, by omega, by go_num, ?_, rfl⟩
            obtain ⟨hx1, hx2⟩ := List.getElem?_eq_some_iff.1 Hx.out
            obtain ⟨hy1, hy2⟩ := List.getElem?_eq_some_iff.1 Hy.out
            refine take_next hx1 hy1 Ht.out ?_
            rw [hx2, hy2]
            exact UInt8.toNat_inj.1 (by simp at heq; omega)
          case measure => simp [intOf]; omega
      · go_wp2
        go_ret
        refine ⟨congrArg (fun b => Ending.returned (.bool b)) (beq_iff_eq.2 ?_).symm, q, rfl⟩
        have := Ht.out
        rwa [List.take_of_length_le (by have := Hn.out; omega), List.take_of_length_le (by have := Hm.out; omega)] at this
  · go_enter Try.func53, Try.ntmps53
    go_wp2
    go_ret
    exact ⟨congrArg (fun b => Ending.returned (.bool b)) (beq_eq_false_iff_ne.2 fun e => h (by rw [← hn, ← hm, e])).symm, 0, rfl⟩
end Go.Proofs.Ytbgdepaffgeinaa

/- append onto a row of the call's own, its source any slice that reads (Sl). -/
namespace Go.Proofs.Ytbgdepaffgeinaa
open Go.RowKit
section
variable {P : Program} (w : World)
theorem run_app_nil (base : Nat) (t ty e : TypeId) (i : TypeInfo) (size : Nat) (ht : P.underlying t = some (.slice e)) (hi : P.info? e = some i)
    (v : Value) (n : Nat) (xs : List Value) (hown : w.ownsRow base e size v n xs) (c : Nat) : (Builtin.append_ #[t, t] ty #[v, .slice none 0 c]).run P w = .ok v w := by
  rcases hown.2 with ⟨rfl, rfl⟩ | ⟨g, cap, cur, rfl, _, _, hnc, _⟩
  · simp [Builtin.append_, run_underlying ht, sizeOf, typeInfo, hi, Builtin.lenOf, Builtin.firstCells]
  · simp [Builtin.append_, run_underlying ht, sizeOf, typeInfo, hi, Builtin.lenOf, Builtin.firstCells, hnc, storeCells]
theorem run_app (base : Nat) (t ty e : TypeId) (i : TypeInfo) (z : Value) (size bytes : Nat) (ht : P.underlying t = some (.slice e)) (hi : P.info? e = some i) (hz : i.zero = some z)
    (hsize : i.size = size) (hby : i.bytes = bytes) (hzs : z.cells.size = size) (hsz : 0 < size)
    (v : Value) (n : Nat) (xs : List Value) (hown : w.ownsRow base e size v n xs)
    (lo hi' : Nat) (A : Option Addr) (m c : Nat) (news : List Value) (hr : Sl w lo hi' size A m c news) (h1 : ∀ u ∈ news, u.oneCell' = true)
    (h63 : n + m ≤ maxLen) (hbytes : (n + m) * bytes ≤ 140737488355328) (hbase : base ≤ w.heap.size) :
    ∃ v' w', (Builtin.append_ #[t, t] ty #[v, .slice A m c]).run P w = .ok v' w' ∧ w'.ownsRow base e size v' (n + m) (xs ++ news) ∧ w.grownBy w' v.ownBlock ∧
      (v'.ownBlock = v.ownBlock ∨ v'.ownBlock = some w.heap.size) := by
  have hz0 : m = 0 → news = [] := fun h0 => List.eq_nil_of_length_eq_zero (by rw [hr.len, h0, Nat.zero_mul])
  rcases A with _ | ad
  · have hm : m = 0 := by
      rcases Nat.eq_zero_or_pos m with h0 | h0
      · exact h0
      · obtain ⟨ad, h, _⟩ := hr.at_ h0
        cases h
    have hn := hz0 hm
    subst hm hn
    exact ⟨v, w, run_app_nil w base t ty e i size ht hi v n xs hown c, by simpa using hown, World.grownBy.refl w _, .inl rfl⟩
  · have hcells : ∀ j u, news[j]? = some u → w.cell? (ad.add j) = some u := by
      intro j u hu
      rcases Nat.eq_zero_or_pos m with h0 | h0
      · rw [hz0 h0] at hu
        simp at hu
      · obtain ⟨ad', h, _, _, hc⟩ := hr.at_ h0
        injection h with h
        subst h
        exact hc j u hu
    obtain ⟨v', w', hrun, h2, h3, _, h5⟩ := run_append_own_at (P := P) w base t ty e i z size bytes ht hi hz hsize hby hzs hsz v n xs hown ad m c news hr.len hcells h1 h63 hbytes hbase
    exact ⟨v', w', hrun, h2, h3, h5⟩
theorem wp_app {o : Oper} {a : Act} {K : Act → World → Prop} {Q : Exit → Act → World → Prop} (s x : Operand) (t : TypeId)
    (ho : o.op = .call { callee := .builtin .append, args := #[s, x], argTypes := #[t, t] })
    (base : Nat) (e : TypeId) (i : TypeInfo) (z : Value) (size bytes : Nat) (ht : P.underlying t = some (.slice e)) (hi : P.info? e = some i) (hz : i.zero = some z)
    (hsize : i.size = size) (hby : i.bytes = bytes) (hzs : z.cells.size = size) (hsz : 0 < size)
    (v : Value) (n : Nat) (xs : List Value) (hs : a.eval s = v) (hown : w.ownsRow base e size v n xs)
    (lo hi' : Nat) (A : Option Addr) (m c : Nat) (news : List Value) (hx : a.eval x = .slice A m c) (hr : Sl w lo hi' size A m c news) (h1 : ∀ u ∈ news, u.oneCell' = true)
    (h63 : n + m ≤ maxLen) (hbytes : (n + m) * bytes ≤ 140737488355328) (hbase : base ≤ w.heap.size)
    (h : ∀ v' w', w'.ownsRow base e size v' (n + m) (xs ++ news) → w.grownBy w' v.ownBlock → (v'.ownBlock = v.ownBlock ∨ v'.ownBlock = some w.heap.size) → K (a.put o.dst v') w') : o.wp P a w K Q := by
  obtain ⟨v', w', hrun, h2, h3, h4⟩ := run_app (P := P) w base t o.type e i z size bytes ht hi hz hsize hby hzs hsz v n xs hown lo hi' A m c news hr h1 h63 hbytes hbase
  unfold Oper.wp execOp
  simp only [ho, resolve, invoke, builtin, Sem.run_bind, Sem.run_pure, Result.andThen_ok, List.map_toArray, List.map_cons, List.map_nil, hs, hx, hrun]
  exact h v' w' h2 h3 h4
theorem wpList_app {ops : Array Oper} {rest : List Oper} {o : Oper} {a : Act} {Q : Exit → Act → World → Prop} (hgd : o.guard = none) (s x : Operand) (t : TypeId)
    (ho : o.op = .call { callee := .builtin .append, args := #[s, x], argTypes := #[t, t] })
    (base : Nat) (e : TypeId) (i : TypeInfo) (z : Value) (size bytes : Nat) (ht : P.underlying t = some (.slice e)) (hi : P.info? e = some i) (hz : i.zero = some z)
    (hsize : i.size = size) (hby : i.bytes = bytes) (hzs : z.cells.size = size) (hsz : 0 < size)
    (v : Value) (n : Nat) (xs : List Value) (hs : a.eval s = v) (hown : w.ownsRow base e size v n xs)
    (lo hi' : Nat) (A : Option Addr) (m c : Nat) (news : List Value) (hx : a.eval x = .slice A m c) (hr : Sl w lo hi' size A m c news) (h1 : ∀ u ∈ news, u.oneCell' = true)
    (h63 : n + m ≤ maxLen) (hbytes : (n + m) * bytes ≤ 140737488355328) (hbase : base ≤ w.heap.size)
    (h : ∀ v' w', w'.ownsRow base e size v' (n + m) (xs ++ news) → w.grownBy w' v.ownBlock → (v'.ownBlock = v.ownBlock ∨ v'.ownBlock = some w.heap.size) → wpList P ops Q rest (a.put o.dst v') w') : wpList P ops Q (o :: rest) a w :=
  wpList_plain hgd fun _ hK => wp_app w s x t ho base e i z size bytes ht hi hz hsize hby hzs hsz v n xs hs hown lo hi' A m c news hx hr h1 h63 hbytes hbase fun v' w' h2 h3 h4 => hK _ _ (h v' w' h2 h3 h4)
theorem step_app {ops : Array Oper} {o : Oper} {a : Act} {K : Act → World → Prop} {Q : Exit → Act → World → Prop} {E : Prop} (hgd : o.guard = none) (s x : Operand) (t : TypeId)
    (ho : o.op = .call { callee := .builtin .append, args := #[s, x], argTypes := #[t, t] })
    (base : Nat) (e : TypeId) (i : TypeInfo) (z : Value) (size bytes : Nat) (ht : P.underlying t = some (.slice e)) (hi : P.info? e = some i) (hz : i.zero = some z)
    (hsize : i.size = size) (hby : i.bytes = bytes) (hzs : z.cells.size = size) (hsz : 0 < size)
    (v : Value) (n : Nat) (xs : List Value) (hs : a.eval s = v) (hown : w.ownsRow base e size v n xs)
    (lo hi' : Nat) (A : Option Addr) (m c : Nat) (news : List Value) (hx : a.eval x = .slice A m c) (hr : Sl w lo hi' size A m c news) (h1 : ∀ u ∈ news, u.oneCell' = true)
    (h63 : n + m ≤ maxLen) (hbytes : (n + m) * bytes ≤ 140737488355328) (hbase : base ≤ w.heap.size)
    (h : ∀ v' w', w'.ownsRow base e size v' (n + m) (xs ++ news) → w.grownBy w' v.ownBlock → (v'.ownBlock = v.ownBlock ∨ v'.ownBlock = some w.heap.size) → K (a.put o.dst v') w') :
    if Region.wanted o (yielded ops a.tmps) = true then Oper.wp P o a w K Q else E := by
  have hw : Region.wanted o (yielded ops a.tmps) = true := by simp [Region.wanted, hgd]
  rw [if_pos hw]
  exact wp_app w s x t ho base e i z size bytes ht hi hz hsize hby hzs hsz v n xs hs hown lo hi' A m c news hx hr h1 h63 hbytes hbase h
end
section
variable {w w' : World} {base e size n : Nat} {v : Value} {xs : List Value}
/-- what is owned reads as a slice -/
theorem own_sl (h : w.ownsRow base e size v n xs) : ∃ A c, v = .slice A n c ∧ Sl w base w.heap.size size A n c xs := by
  rcases h.2 with ⟨rfl, rfl⟩ | ⟨g, cap, cur, rfl, hb, hg, hn, hm, hs, ht⟩
  · exact ⟨none, 0, rfl, h.1, by omega, by omega, fun h => absurd h (by omega)⟩
  · refine ⟨_, _, rfl, h.1, hn, hm, fun _ => ⟨_, rfl, hb, (h.lt g rfl).2, h.cells (g := g) rfl⟩⟩
theorem own_wide {lo : Nat} (h : w.ownsRow base e size v n xs) (hl : lo ≤ base) : w.ownsRow lo e size v n xs := by
  rcases h.2 with hn | ⟨g, cap, cur, hv, hb, rest⟩
  · exact ⟨h.1, .inl hn⟩
  · exact ⟨h.1, .inr ⟨g, cap, cur, hv, by omega, rest⟩⟩
theorem own_after (h : w.ownsRow base e size v n xs) (hb : Below w.heap.size w w') : w'.ownsRow base e size v n xs := by
  rcases h.2 with hn | ⟨g, cap, cur, hv, hb', hg, rest⟩
  · exact ⟨h.1, .inl hn⟩
  · have hl : g < w.heap.size := (h.lt g (by rw [hv]; rfl)).2
    exact ⟨h.1, .inr ⟨g, cap, cur, hv, hb', (hb.block g hl).trans hg, rest⟩⟩
theorem own_empty (w : World) (g size : Nat) (e : TypeId) (hg : w.heap.size = g) : (w.alloc (.cells #[] e)).ownsRow g e size (.slice (some ⟨g, 0, none⟩) 0 0) 0 [] := by
  subst hg
  exact World.ownsRow_made w #[] 0 (Nat.le_refl _) (by simp [maxLen]) (by simp)
theorem own_drewN (h : w.ownsRow base e size v n xs) (k : Nat) : (w.drewN k).ownsRow base e size v n xs := h
theorem below_drewN {B : Nat} {a w : World} (h : Below B a w) (n : Nat) : Below B a (w.drewN n) := ⟨h.os, h.tape, h.output, h.size, h.block⟩
theorem below_of_drew {B : Nat} (h : Below B w.drew w') : Below B w w' := ⟨h.os, h.tape, h.output, h.size, h.block⟩
theorem grown_below {row : Option Nat} {B : Nat} (h : w.grownBy w' row) (hB : B ≤ w.heap.size) (hr : ∀ k, row = some k → B ≤ k) : Below B w w' :=
  (Below.refl B w).grown h hB hr
end
end Go.Proofs.Ytbgdepaffgeinaa

/- A block that is known whole. -/
namespace Go.Proofs.Ytbgdepaffgeinaa
open Go.RowKit
/-- block g is just the cells cs of element type t, none frozen -/
def Blk (w : World) (g : Nat) (t : TypeId) (cs : Array Value) : Prop := w.heap[g]? = some (.cells cs t (0, 0))
section
variable {w w' : World} {g : Nat} {t : TypeId} {cs : Array Value}
theorem Blk.lt (h : Blk w g t cs) : g < w.heap.size := by
  rcases Nat.lt_or_ge g w.heap.size with hlt | hge
  · exact hlt
  · unfold Blk at h; rw [Array.getElem?_eq_none hge] at h; cases h
theorem Blk.cell (h : Blk w g t cs) (i : Nat) : w.cell? ⟨g, i, none⟩ = cs[i]? := cell_of_row w g i cs t (0, 0) h
theorem Blk.frozen (h : Blk w g t cs) (i : Nat) : w.frozen? ⟨g, i, none⟩ = false := by
  unfold Blk at h
  simp [World.frozen?, h]
theorem Blk.new (w : World) (t : TypeId) (cs : Array Value) : Blk (w.alloc (.cells cs t)) w.heap.size t cs := heap_alloc_new w _
theorem Blk.drew (h : Blk w g t cs) : Blk w.drew g t cs := h
theorem Blk.drewN (h : Blk w g t cs) (n : Nat) : Blk (w.drewN n) g t cs := h
theorem Blk.alloc (h : Blk w g t cs) (o : Obj) : Blk (w.alloc o) g t cs := (Below.heap_alloc w o g h.lt).trans h
theorem Blk.set_ (h : Blk w g t cs) (i : Nat) (u : Value) : Blk (w.setCell ⟨g, i, none⟩ u) g t (cs.setIfInBounds i u) := by
  unfold Blk at h ⊢
  simp [World.setCell, Array.getElem?_modify, h]
theorem Blk.far (h : Blk w g t cs) {p : Addr} (hp : g ≠ p.block) (u : Value) : Blk (w.setCell p u) g t cs := (Below.heap_setCell w p u g hp).trans h
theorem Blk.below {B : Nat} (h : Blk w g t cs) (hb : Below B w w') (hg : g < B) : Blk w' g t cs := (hb.block g hg).trans h
theorem Blk.after (h : Blk w g t cs) (hb : Below w.heap.size w w') : Blk w' g t cs := (hb.block g h.lt).trans h
theorem Blk.grown {row : Option Nat} (h : Blk w g t cs) (hb : w.grownBy w' row) (hg : some g ≠ row) : Blk w' g t cs := (hb.block g h.lt hg).trans h
end
/-- the cells that were just laid, as a slice -/
theorem sl_new (w : World) (size n c : Nat) (cs : Array Value) (t : TypeId) (h : cs.size = n * size) (hc : n ≤ c) (hm : c ≤ 9223372036854775807) : Sl (w.alloc (.cells cs t)) w.heap.size (w.heap.size + 1) size (some ⟨w.heap.size, 0, none⟩) n c cs.toList :=
  ⟨by simpa using h, hc, hm, fun _ => ⟨_, rfl, Nat.le_refl _, Nat.lt_succ_self _, fun j u hu => by
    have hadd : (⟨w.heap.size, 0, none⟩ : Addr).add j = ⟨w.heap.size, j, none⟩ := by unfold Addr.add; split <;> simp_all
    rw [hadd, (Blk.new w t cs).cell j]
    simpa using hu⟩⟩
theorem sl_at (w : World) (g size n c : Nat) (cs : Array Value) (t : TypeId) (hg : w.heap.size = g) (h : cs.size = n * size) (hc : n ≤ c) (hm : c ≤ 9223372036854775807) : Sl (w.alloc (.cells cs t)) g (g + 1) size (some ⟨g, 0, none⟩) n c cs.toList := by
  subst hg
  exact sl_new w size n c cs t h hc hm
theorem sl_one (w : World) (v : Value) (t : TypeId) : Sl (w.alloc (.cells #[v] t)) w.heap.size (w.heap.size + 1) 1 (some ⟨w.heap.size, 0, none⟩) 1 1 [v] :=
  sl_new w 1 1 1 #[v] t rfl (Nat.le_refl _) (by decide)
theorem one_bv (b : UInt8) : ∀ u ∈ [bv b], u.oneCell' = true := by intro u hu; rw [List.mem_singleton.1 hu]; rfl
section
variable {w w' : World} {base e size n : Nat} {v : Value} {xs : List Value}
theorem own_set {g : Nat} (h : w.ownsRow base e size v n xs) (hg : g < base) (i : Nat) (u : Value) : (w.setCell ⟨g, i, none⟩ u).ownsRow base e size v n xs := ownsRow_setCell_below h hg u
theorem own_off (h : w.ownsRow base e size v n xs) {g : Nat} (hg : g < base) : some g ≠ v.ownBlock := fun e => by have := (h.lt g e.symm).1; omega
theorem below_alloc' {B : Nat} {a : World} (h : Below B a w) (o : Obj) (hB : B ≤ a.heap.size) : Below B a (w.alloc o) := h.alloc (Nat.le_trans hB h.size) o
end
end Go.Proofs.Ytbgdepaffgeinaa
