import Derived.Test.YtciolppoanfiaaaDoorZEnts
import Derived.Test.YtciolppoanfiaaaDoorZRead
namespace Go.Proofs.YtciolppoanfiaaaDoor
open Go.RowKit

/-- a message in memory: its fields, where its bytes and its entries lie -/
structure Msg where
  k : Int
  f : Int
  t : Int
  te : Nat
  ix : Nat
  pr : Nat
  co : Nat
  ok : Bool
  dA : Option Addr
  dc : Nat
  d : List UInt8
  eA : Option Addr
  ec : Nat
  es : List Ent
def mcells (k f t : Int) (te ix pr co : Nat) (ok : Bool) (dA : Option Addr) (dn dc : Nat) (eA : Option Addr) (en ec : Nat) : Array Value :=
  #[.int .i64 k, .int .i64 f, .int .i64 t, .int .u64 (te : Int), .int .u64 (ix : Int), .int .u64 (pr : Int), .int .u64 (co : Int), .bool ok, .slice dA dn dc, .slice eA en ec]
def Msg.v (m : Msg) : Value := .agg (mcells m.k m.f m.t m.te m.ix m.pr m.co m.ok m.dA m.d.length m.dc m.eA m.es.length m.ec)
structure IsMsg (w : World) (m : Msg) : Prop where
  data : ∃ lo hi, Sl w lo hi 1 m.dA m.d.length m.dc (m.d.map bv)
  ents : ∃ lo hi, Sl w lo hi 3 m.eA m.es.length m.ec (ecells m.es)
  bytes : EData w m.es
theorem IsMsg.after {w w' : World} {m : Msg} (h : IsMsg w m) (hb : Below w.heap.size w w') : IsMsg w' m :=
  ⟨by obtain ⟨lo, hi, hs⟩ := h.data; exact ⟨lo, hi, hs.after (by decide) hb⟩, by obtain ⟨lo, hi, hs⟩ := h.ents; exact ⟨lo, hi, hs.after (by decide) hb⟩, h.bytes.after hb⟩
theorem IsMsg.alloc {w : World} {m : Msg} (h : IsMsg w m) (o : Obj) : IsMsg (w.alloc o) m :=
  ⟨by obtain ⟨lo, hi, hs⟩ := h.data; exact ⟨lo, hi, hs.alloc (by decide) o⟩, by obtain ⟨lo, hi, hs⟩ := h.ents; exact ⟨lo, hi, hs.alloc (by decide) o⟩, h.bytes.alloc o⟩
theorem below_boxed {w w' : World} {o : Obj} (h : Below (w.alloc o).heap.size (w.alloc o) w') : Below w.heap.size w w' :=
  ((Below.refl w.heap.size w).alloc (Nat.le_refl _) o).trans (h.mono (by simp))
theorem Blk.c3 {w : World} {g : Nat} {t : TypeId} {a b c : Value} (h : Blk w g t #[a, b, c]) : w.cell? ⟨g, 0, none⟩ = some a ∧ w.cell? ⟨g, 1, none⟩ = some b ∧ w.cell? ⟨g, 2, none⟩ = some c := ⟨h.cell 0, h.cell 1, h.cell 2⟩
def longE (e : Ent) : Bool := decide (24 < e.l.length)
def strangeE (e : Ent) : Bool := decide (e.k < 0 ∨ 255 < e.k)
/-- what is wrong with a message -/
def checkF (k f t : Int) (dn : Nat) (es : List Ent) : Nat :=
  if k < 1 ∨ 12 < k then 30 else if ¬ (0 ≤ f ∧ f ≤ 15) ∨ ¬ (0 ≤ t ∧ t ≤ 15) then 31 else if 700 < dn ∨ 8 < es.length ∨ es.any longE = true then 2 else if es.any strangeE = true then 30 else 0

set_option maxRecDepth 100000 in
theorem long_any (e : Ent) (w : World) : Calls Tryd.prog 55 #[e.v] w fun x w' => x = .returned (.bool (longE e)) ∧ Below w.heap.size w w' := by
  obtain ⟨t, k, A, c, l⟩ := e
  simp only [Ent.v, longE]
  generalize l.length = n
  have hd : decide (24 < n) = decide ((24 : Int) < (n : Int)) := decide_eq_decide.2 (by omega)
  rw [hd]
  clear hd
  go_enter Tryd.func55, Tryd.ntmps55
  go_wp2
  go_ret
  exact ⟨by simp, (Below.refl _ _).alloc (Nat.le_refl _) _⟩
set_option maxRecDepth 100000 in
theorem strange_any (e : Ent) (w : World) : Calls Tryd.prog 56 #[e.v] w fun x w' => x = .returned (.bool (strangeE e)) ∧ Below w.heap.size w w' := by
  obtain ⟨t, k, A, c, l⟩ := e
  simp only [Ent.v, strangeE]
  by_cases h : k < 0
  · rw [decide_eq_true (p := k < 0 ∨ 255 < k) (.inl h)]
    have q : decide (k < 0) = true := decide_eq_true h
    go_enter Tryd.func56, Tryd.ntmps56
    go_wp2
    go_ret
    exact ⟨rfl, (Below.refl _ _).alloc (Nat.le_refl _) _⟩
  · have hd : decide (k < 0 ∨ 255 < k) = decide (255 < k) := decide_eq_decide.2 ⟨fun _ => by omega, fun _ => by omega⟩
    rw [hd]
    have q : decide (k < 0) = false := decide_eq_false h
    clear hd
    go_enter Tryd.func56, Tryd.ntmps56
    go_wp2
    go_ret
    exact ⟨rfl, (Below.refl _ _).alloc (Nat.le_refl _) _⟩
set_option maxRecDepth 100000 in
set_option maxHeartbeats 800000 in
theorem indexFunc_long (A : Option Addr) (n c lo hi : Nat) (es : List Ent) (w : World) (hs : Sl w lo hi 3 A n c (ecells es)) :
    Calls Tryd.prog 81 #[.slice A n c, .func (.func 55) #[] #[]] w fun x w' => (∃ r : Int, x = .returned (.int .i64 r) ∧ decide (0 ≤ r) = es.any longE) ∧ Below w.heap.size w w' := by
  have hl : es.length = n := by have := hs.len; rw [ecells_len] at this; omega
  have hcap := hs.cap
  have hmax := hs.max
  have HL := Lib.hid hl
  clear hl
  go_enter Tryd.func81, Tryd.ntmps81
  go_wp2
  go_loopw [8] (fun i wr => ∃ k : Nat, k ≤ n ∧ i = .int .i64 k ∧ (∀ (j : Nat) (e : Ent), j < k → es[j]? = some e → longE e = false) ∧ Below w.heap.size w wr) (fun i _ => n - (intOf i).toNat)
  case atStart => exact ⟨0, Nat.zero_le _, rfl, fun j e h => by omega, Below.refl _ _⟩
  case round =>
    obtain ⟨k, hk, rfl, hno, Dr⟩ := hrel
    have HNO := Lib.hid hno
    clear hno
    by_cases hlt : k < n
    · obtain ⟨ad, e, rfl, he, c0, c1, c2⟩ := ((hs.now (by decide)).below Dr (Nat.le_refl _)).ent hlt
      have hF := long_any e wr
      have HE := Lib.hid he
      clear he
      cases hp : longE e with
      | true =>
        rw [hp] at hF
        have HP := Lib.hid hp
        clear hp
        obtain ⟨t, kk, A', c', l⟩ := e
        simp only [Ent.v] at hF
        simp only at c0 c1 c2
        go_wp2_with fail
        refine hF.mono ?_
        rintro x w1 ⟨rfl, hb1⟩
        go_wp2
        go_ret
        refine ⟨⟨k, rfl, ?_⟩, Dr.trans (hb1.mono Dr.size)⟩
        rw [decide_eq_true (by omega)]
        exact (List.any_eq_true.2 ⟨_, List.mem_of_getElem? HE.out, HP.out⟩).symm
      | false =>
        rw [hp] at hF
        have HP := Lib.hid hp
        clear hp
        obtain ⟨t, kk, A', c', l⟩ := e
        simp only [Ent.v] at hF
        simp only at c0 c1 c2
        go_wp2_with fail
        refine hF.mono ?_
        rintro x w1 ⟨rfl, hb1⟩
        go_wp2
        go_roundw
        case rel =>
          refine ⟨k + 1, by omega, by go_num, fun j e hj he => ?_, Dr.trans (hb1.mono Dr.size)⟩
          by_cases hjk : j = k
          · subst hjk
            rw [HE.out] at he
            rw [← Option.some.inj he]
            exact HP.out
          · exact HNO.out j e (by omega) he
        case measure => simp [intOf]; omega
    · go_wp2
      go_ret
      refine ⟨⟨-1, rfl, ?_⟩, Dr⟩
      rw [decide_eq_false (by omega)]
      refine (List.any_eq_false.2 fun e he => ?_).symm
      obtain ⟨j, hj⟩ := List.getElem?_of_mem he
      have := HNO.out j e (by have := (List.getElem?_eq_some_iff.1 hj).1; have := HL.out; omega) hj
      simp [this]
set_option maxRecDepth 100000 in
theorem containsFunc_long (A : Option Addr) (n c lo hi : Nat) (es : List Ent) (w : World) (hs : Sl w lo hi 3 A n c (ecells es)) :
    Calls Tryd.prog 58 #[.slice A n c, .func (.func 55) #[] #[]] w fun x w' => x = .returned (.bool (es.any longE)) ∧ Below w.heap.size w w' := by
  go_enter Tryd.func58, Tryd.ntmps58
  go_wp2_with fail
  refine (indexFunc_long A n c lo hi es _ hs).mono ?_
  rintro x w1 ⟨⟨r, rfl, hr⟩, hb1⟩
  have HR := Lib.hid hr
  clear hr
  go_wp2
  go_ret
  exact ⟨by rw [← HR.out]; rfl, hb1⟩
set_option maxRecDepth 100000 in
set_option maxHeartbeats 800000 in
theorem indexFunc_strange (A : Option Addr) (n c lo hi : Nat) (es : List Ent) (w : World) (hs : Sl w lo hi 3 A n c (ecells es)) :
    Calls Tryd.prog 81 #[.slice A n c, .func (.func 56) #[] #[]] w fun x w' => (∃ r : Int, x = .returned (.int .i64 r) ∧ decide (0 ≤ r) = es.any strangeE) ∧ Below w.heap.size w w' := by
  have hl : es.length = n := by have := hs.len; rw [ecells_len] at this; omega
  have hcap := hs.cap
  have hmax := hs.max
  have HL := Lib.hid hl
  clear hl
  go_enter Tryd.func81, Tryd.ntmps81
  go_wp2
  go_loopw [8] (fun i wr => ∃ k : Nat, k ≤ n ∧ i = .int .i64 k ∧ (∀ (j : Nat) (e : Ent), j < k → es[j]? = some e → strangeE e = false) ∧ Below w.heap.size w wr) (fun i _ => n - (intOf i).toNat)
  case atStart => exact ⟨0, Nat.zero_le _, rfl, fun j e h => by omega, Below.refl _ _⟩
  case round =>
    obtain ⟨k, hk, rfl, hno, Dr⟩ := hrel
    have HNO := Lib.hid hno
    clear hno
    by_cases hlt : k < n
    · obtain ⟨ad, e, rfl, he, c0, c1, c2⟩ := ((hs.now (by decide)).below Dr (Nat.le_refl _)).ent hlt
      have hF := strange_any e wr
      have HE := Lib.hid he
      clear he
      cases hp : strangeE e with
      | true =>
        rw [hp] at hF
        have HP := Lib.hid hp
        clear hp
        obtain ⟨t, kk, A', c', l⟩ := e
        simp only [Ent.v] at hF
        simp only at c0 c1 c2
        go_wp2_with fail
        refine hF.mono ?_
        rintro x w1 ⟨rfl, hb1⟩
        go_wp2
        go_ret
        refine ⟨⟨k, rfl, ?_⟩, Dr.trans (hb1.mono Dr.size)⟩
        rw [decide_eq_true (by omega)]
        exact (List.any_eq_true.2 ⟨_, List.mem_of_getElem? HE.out, HP.out⟩).symm
      | false =>
        rw [hp] at hF
        have HP := Lib.hid hp
        clear hp
        obtain ⟨t, kk, A', c', l⟩ := e
        simp only [Ent.v] at hF
        simp only at c0 c1 c2
        go_wp2_with fail
        refine hF.mono ?_
        rintro x w1 ⟨rfl, hb1⟩
        go_wp2
        go_roundw
        case rel =>
          refine ⟨k + 1, by omega, by go_num, fun j e hj he => ?_, Dr.trans (hb1.mono Dr.size)⟩
          by_cases hjk : j = k
          · subst hjk
            rw [HE.out] at he
            rw [← Option.some.inj he]
            exact HP.out
          · exact HNO.out j e (by omega) he
        case measure => simp [intOf]; omega
    · go_wp2
      go_ret
      refine ⟨⟨-1, rfl, ?_⟩, Dr⟩
      rw [decide_eq_false (by omega)]
      refine (List.any_eq_false.2 fun e he => ?_).symm
      obtain ⟨j, hj⟩ := List.getElem?_of_mem he
      have := HNO.out j e (by have := (List.getElem?_eq_some_iff.1 hj).1; have := HL.out; omega) hj
      simp [this]
set_option maxRecDepth 100000 in
theorem containsFunc_strange (A : Option Addr) (n c lo hi : Nat) (es : List Ent) (w : World) (hs : Sl w lo hi 3 A n c (ecells es)) :
    Calls Tryd.prog 58 #[.slice A n c, .func (.func 56) #[] #[]] w fun x w' => x = .returned (.bool (es.any strangeE)) ∧ Below w.heap.size w w' := by
  go_enter Tryd.func58, Tryd.ntmps58
  go_wp2_with fail
  refine (indexFunc_strange A n c lo hi es _ hs).mono ?_
  rintro x w1 ⟨⟨r, rfl, hr⟩, hb1⟩
  have HR := Lib.hid hr
  clear hr
  go_wp2
  go_ret
  exact ⟨by rw [← HR.out]; rfl, hb1⟩
end Go.Proofs.YtciolppoanfiaaaDoor
