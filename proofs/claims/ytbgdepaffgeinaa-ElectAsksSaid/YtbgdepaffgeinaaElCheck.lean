/- The document's Check and Short answer something; Right. -/
import Derived.Test.YtbgdepaffgeinaaElInt
namespace Go.Proofs.Ytbgdepaffgeinaa
open Go.RowKit
def SomeInt (e : Ending) : Prop := ∃ v : Int, e = .returned (.int .i64 v)
def SomeBool (e : Ending) : Prop := ∃ b : Bool, e = .returned (.bool b)
set_option maxRecDepth 100000 in
set_option maxHeartbeats 3200000 in
theorem mcheck_some (k f d : Int) (t i q c : Int) (ok : Bool) (dA : Option Addr) (dn dc : Nat) (eA : Option Addr) (en ec lo hi : Nat) (es : List Ent) (w : World) (hdn : dn ≤ 9223372036854775807) (hs : Sl w lo hi 3 eA en ec (ecells es)) :
    Calls Try.prog 72 #[.agg #[.int .i64 k, .int .i64 f, .int .i64 d, .int .u64 t, .int .u64 i, .int .u64 q, .int .u64 c, .bool ok, .slice dA dn dc, .slice eA en ec]] w fun e w' => SomeInt e ∧ Below w.heap.size w w' := by
  by_cases h0 : k < 1
  · go_enter Try.func72, Try.ntmps72
    go_wp2
    go_ret
    exact ⟨⟨_, rfl⟩, (Below.refl _ w).alloc (Nat.le_refl _) _⟩
  · by_cases h1 : 12 < k
    · go_enter Try.func72, Try.ntmps72
      go_wp2
      go_ret
      exact ⟨⟨_, rfl⟩, (Below.refl _ w).alloc (Nat.le_refl _) _⟩
    · by_cases h2 : f < 0
      · go_enter Try.func72, Try.ntmps72
        go_wp2
        go_ret
        exact ⟨⟨_, rfl⟩, (Below.refl _ w).alloc (Nat.le_refl _) _⟩
      · by_cases h3 : 15 < f
        · go_enter Try.func72, Try.ntmps72
          go_wp2
          go_ret
          exact ⟨⟨_, rfl⟩, (Below.refl _ w).alloc (Nat.le_refl _) _⟩
        · by_cases h4 : d < 0
          · go_enter Try.func72, Try.ntmps72
            go_wp2
            go_ret
            exact ⟨⟨_, rfl⟩, (Below.refl _ w).alloc (Nat.le_refl _) _⟩
          · by_cases h5 : 15 < d
            · go_enter Try.func72, Try.ntmps72
              go_wp2
              go_ret
              exact ⟨⟨_, rfl⟩, (Below.refl _ w).alloc (Nat.le_refl _) _⟩
            · by_cases h6 : (700 : Int) < (dn : Int)
              · go_enter Try.func72, Try.ntmps72
                go_wp2
                go_ret
                exact ⟨⟨_, rfl⟩, (Below.refl _ w).alloc (Nat.le_refl _) _⟩
              · by_cases h7 : (8 : Int) < (en : Int)
                · go_enter Try.func72, Try.ntmps72
                  go_wp2
                  go_ret
                  exact ⟨⟨_, rfl⟩, (Below.refl _ w).alloc (Nat.le_refl _) _⟩
                · go_enter Try.func72, Try.ntmps72
                  go_wp2
                  have HX : Hid (∀ W, Below w.heap.size w W → Sl W lo hi 3 eA en ec (ecells es)) := fun W hW => hs.after (by decide) hW
                  have hcap := hs.cap
                  have hmax := hs.max
                  clear hs
                  go_loopw [3] (fun ii wr => ∃ j : Nat, j ≤ en ∧ ii = .int .i64 j ∧ Below w.heap.size w wr ∧ wr.cell? ⟨w.heap.size, 9, none⟩ = some (.slice eA en ec)) (fun ii _ => en - (intOf ii).toNat)
                  case atStart => exact ⟨0, Nat.zero_le _, rfl, (Below.refl _ w).alloc (Nat.le_refl _) _, (Blk.new w 81 #[.int .i64 k, .int .i64 f, .int .i64 d, .int .u64 t, .int .u64 i, .int .u64 q, .int .u64 c, .bool ok, .slice dA dn dc, .slice eA en ec]).cell 9⟩
                  case round =>
                    obtain ⟨j, hj, rfl, hb, x9⟩ := hrel
                    have HB := Lib.hid hb
                    by_cases hjn : j < en
                    · have hjn' : (j : Int) < (en : Int) := by omega
                      obtain ⟨ad, e, rfl, he, c0, c1, c2⟩ := (HX.out wr hb).ent hjn
                      clear hb he
                      by_cases hl : (24 : Int) < (e.l.length : Int)
                      · go_wp2
                        go_ret
                        exact ⟨⟨_, rfl⟩, HB.out⟩
                      · go_wp2
                        go_roundw
                        case rel => exact ⟨j + 1, by omega, by first | rfl | go_num, HB.out, x9⟩
                        case measure => simp [intOf]; omega
                    · have hjn' : ¬ (j : Int) < (en : Int) := by omega
                      obtain ⟨wq, hwq⟩ : ∃ wq, wq = wr := ⟨_, rfl⟩
                      subst hwq
                      clear hb hj hjn
                      go_wp2
                      go_loopw [4] (fun ii wr => ∃ j : Nat, j ≤ en ∧ ii = .int .i64 j ∧ Below w.heap.size w wr ∧ wr.cell? ⟨w.heap.size, 9, none⟩ = some (.slice eA en ec)) (fun ii _ => en - (intOf ii).toNat)
                      case atStart => exact ⟨0, Nat.zero_le _, rfl, HB.out, x9⟩
                      case round =>
                        obtain ⟨j2, hj, rfl, hb, x9⟩ := hrel
                        have HB2 := Lib.hid hb
                        by_cases hjn : j2 < en
                        · have hjn2 : (j2 : Int) < (en : Int) := by omega
                          obtain ⟨ad, e, rfl, he, c0, c1, c2⟩ := (HX.out wr hb).ent hjn
                          clear hb he
                          by_cases h0 : e.k < 0
                          · go_wp2
                            go_ret
                            exact ⟨⟨_, rfl⟩, HB2.out⟩
                          · by_cases h255 : 255 < e.k
                            · go_wp2
                              go_ret
                              exact ⟨⟨_, rfl⟩, HB2.out⟩
                            · go_wp2
                              go_roundw
                              case rel => exact ⟨j2 + 1, by omega, by first | rfl | go_num, HB2.out, x9⟩
                              case measure => simp [intOf]; omega
                        · have hjn2 : ¬ (j2 : Int) < (en : Int) := by omega
                          clear hb
                          go_wp2
                          go_ret
                          exact ⟨⟨_, rfl⟩, HB2.out⟩
set_option maxRecDepth 100000 in
set_option maxHeartbeats 3200000 in
theorem mshort_some (k f d : Int) (t i q c : Int) (ok : Bool) (dA : Option Addr) (dn dc : Nat) (eA : Option Addr) (en ec lo hi : Nat) (es : List Ent) (w : World) (hdn : dn ≤ 9223372036854775807) (hs : Sl w lo hi 3 eA en ec (ecells es)) :
    Calls Try.prog 46 #[.agg #[.int .i64 k, .int .i64 f, .int .i64 d, .int .u64 t, .int .u64 i, .int .u64 q, .int .u64 c, .bool ok, .slice dA dn dc, .slice eA en ec]] w fun e w' => SomeBool e ∧ Below w.heap.size w w' := by
  have HC := Lib.hid (mcheck_some k f d t i q c ok dA dn dc eA en ec lo _ es (w.alloc (.cells #[.int .i64 k, .int .i64 f, .int .i64 d, .int .u64 t, .int .u64 i, .int .u64 q, .int .u64 c, .bool ok, .slice dA dn dc, .slice eA en ec] 81)) hdn (hs.alloc (by decide) _))
  clear hs
  go_enter Try.func46, Try.ntmps46
  go_wp2_with fail
  refine HC.out.mono ?_
  rintro e w1 ⟨⟨v, rfl⟩, hb⟩
  have B1 := (Blk.new w 81 #[.int .i64 k, .int .i64 f, .int .i64 d, .int .u64 t, .int .u64 i, .int .u64 q, .int .u64 c, .bool ok, .slice dA dn dc, .slice eA en ec]).after hb
  have x3 : w1.cell? ⟨w.heap.size, 3, none⟩ = some (.int .u64 t) := B1.cell 3
  have x4 : w1.cell? ⟨w.heap.size, 4, none⟩ = some (.int .u64 i) := B1.cell 4
  have x5 : w1.cell? ⟨w.heap.size, 5, none⟩ = some (.int .u64 q) := B1.cell 5
  have x6 : w1.cell? ⟨w.heap.size, 6, none⟩ = some (.int .u64 c) := B1.cell 6
  have HB := Lib.hid (below_boxed hb)
  clear B1 hb HC
  by_cases h0 : v = 0
  · have e0 : (v == 0) = true := by simp [h0]
    clear h0
    by_cases h1 : t < 1152921504606846976
    · by_cases h2 : i < 1152921504606846976
      · by_cases h3 : q < 1152921504606846976
        · go_wp2
          go_ret
          exact ⟨⟨_, rfl⟩, HB.out⟩
        · go_wp2
          go_ret
          exact ⟨⟨_, rfl⟩, HB.out⟩
      · go_wp2
        go_ret
        exact ⟨⟨_, rfl⟩, HB.out⟩
    · go_wp2
      go_ret
      exact ⟨⟨_, rfl⟩, HB.out⟩
  · have e0 : (v == 0) = false := by simp [h0]
    clear h0
    go_wp2
    go_ret
    exact ⟨⟨_, rfl⟩, HB.out⟩
def rightFrom (last : Int) : List Int → Bool
  | [] => true
  | x :: xs => !(decide (x ≤ last) || decide (15 < x)) && rightFrom x xs
def right (l : List Int) : Bool := rightFrom (-1) l && decide (0 < l.length)
theorem right_all : ∀ (l : List Int) (last : Int), rightFrom last l = true → l.length ≤ (15 - last).toNat ∧ ∀ x ∈ l, last < x ∧ x ≤ 15
  | [], last, _ => ⟨Nat.zero_le _, fun x hx => by cases hx⟩
  | y :: ys, last, h => by
    unfold rightFrom at h
    simp at h
    obtain ⟨⟨h1, h2⟩, h3⟩ := h
    obtain ⟨k1, k2⟩ := right_all ys y h3
    refine ⟨by simp; omega, fun x hx => ?_⟩
    rcases List.mem_cons.1 hx with rfl | hx
    · omega
    · have := k2 x hx; omega
def lastOf (last : Int) (l : List Int) : Int := l.getLast?.getD last
theorem rightFrom_drop {last : Int} : ∀ {l : List Int} {k : Nat} {x : Int}, l[k]? = some x → rightFrom last (l.drop k) = (!(decide (x ≤ last) || decide (15 < x)) && rightFrom x (l.drop (k + 1)))
  | l, k, x, h => by
    obtain ⟨h1, h2⟩ := List.getElem?_eq_some_iff.1 h
    rw [List.drop_eq_getElem_cons h1, h2]
    rfl
set_option maxRecDepth 100000 in
set_option maxHeartbeats 3200000 in
theorem right_any (A : Option Addr) (n c lo hi : Nat) (xs : List Int) (w : World) (hs : Sl w lo hi 1 A n c (xs.map iv)) :
    Calls Try.prog 57 #[.slice A n c] w fun e w' => e = .returned (.bool (right xs)) ∧ w = w' := by
  have hl := ilen hs
  have hcap := hs.cap
  have hmax := hs.max
  obtain ⟨r, hr⟩ : ∃ r, right xs = r := ⟨_, rfl⟩
  have HR := Lib.hid hr
  rw [hr]
  have HS := Lib.hid hs
  have HL := Lib.hid hl
  clear hs hr hl
  go_enter Try.func57, Try.ntmps57
  go_wp2
  go_loopw [3, 4] (fun lv ii wr => ∃ (k : Nat) (last : Int), k ≤ n ∧ ii = .int .i64 k ∧ lv = .int .i64 last ∧ (rightFrom last (xs.drop k) && decide (0 < xs.length)) = r ∧ w = wr) (fun _ ii _ => n - (intOf ii).toNat)
  case atStart => exact ⟨0, -1, Nat.zero_le _, rfl, rfl, HR.out, rfl⟩
  case round =>
    obtain ⟨k, last, hk, rfl, rfl, hrr, rfl⟩ := hrel
    have HRR := Lib.hid hrr
    clear hrr
    by_cases hkn : k < n
    · have hkn' : (k : Int) < (n : Int) := by omega
      obtain ⟨ad, x, rfl, hx, z0⟩ := HS.out.int hkn
      have HX := Lib.hid hx
      clear hx
      by_cases h1 : x ≤ last
      · have hr0 : r = false := by rw [← HRR.out, rightFrom_drop HX.out]; simp [h1]
        subst hr0
        go_wp2
        go_ret
        exact ⟨rfl, rfl⟩
      · by_cases h2 : 15 < x
        · have hr0 : r = false := by rw [← HRR.out, rightFrom_drop HX.out]; simp [h2]
          subst hr0
          go_wp2
          go_ret
          exact ⟨rfl, rfl⟩
        · go_wp2
          go_roundw
          case rel => exact ⟨k + 1, x, by omega, by first | rfl | go_num, rfl, by rw [← HRR.out, rightFrom_drop HX.out]; simp [h1, h2], by first | rfl | trivial⟩
          case measure => simp [intOf]; omega
    · have hkn' : ¬ (k : Int) < (n : Int) := by omega
      have hdr : xs.drop k = [] := List.drop_eq_nil_of_le (by rw [HL.out]; omega)
      have hrr : decide (0 < n) = r := by rw [← HRR.out, hdr, HL.out]; rfl
      by_cases hn0 : 0 < n
      · have e0 : (0 : Int) < (n : Int) := by omega
        obtain rfl : r = true := by rw [← hrr]; simp [hn0]
        clear hrr
        go_wp2
        go_ret
        exact ⟨rfl, rfl⟩
      · have e0 : ¬ (0 : Int) < (n : Int) := by omega
        obtain rfl : r = false := by rw [← hrr]; simp; omega
        clear hrr
        go_wp2
        go_ret
        exact ⟨rfl, rfl⟩
end Go.Proofs.Ytbgdepaffgeinaa
