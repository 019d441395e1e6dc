/- Messages as bytes: plain, the whole of them. -/
import Derived.Test.YtciolppoanfiaaaDoorPWire
namespace Go.Proofs.YtciolppoanfiaaaDoor

/-- a message, its fields alone -/
structure PMsg where
  k : Int
  f : Int
  t : Int
  te : Nat
  ix : Nat
  pr : Nat
  co : Nat
  ok : Bool
  d : List UInt8
  es : List Key
def PMsg.zero : PMsg := ⟨0, 0, 0, 0, 0, 0, 0, false, [], []⟩
def Msg.plain (m : Msg) : PMsg := ⟨m.k, m.f, m.t, m.te, m.ix, m.pr, m.co, m.ok, m.d, m.es.map Ent.key⟩
def Msg.zero : Msg := ⟨0, 0, 0, 0, 0, 0, 0, false, none, 0, [], none, 0, []⟩
def longK (e : Key) : Bool := decide (24 < e.2.2.length)
def strangeK (e : Key) : Bool := decide (e.2.1 < 0 ∨ 255 < e.2.1)
/-- what is wrong with a message -/
def checkK (k f t : Int) (dn : Nat) (es : List Key) : Nat :=
  if k < 1 ∨ 12 < k then 30 else if ¬ (0 ≤ f ∧ f ≤ 15) ∨ ¬ (0 ≤ t ∧ t ≤ 15) then 31 else if 700 < dn ∨ 8 < es.length ∨ es.any longK = true then 2 else if es.any strangeK = true then 30 else 0
theorem checkF_key (k f t : Int) (dn : Nat) (es : List Ent) : checkF k f t dn es = checkK k f t dn (es.map Ent.key) := by
  unfold checkF checkK
  have h1 : (es.map Ent.key).any longK = es.any longE := by rw [List.any_map]; rfl
  have h2 : (es.map Ent.key).any strangeK = es.any strangeE := by rw [List.any_map]; rfl
  rw [h1, h2, List.length_map]
def PMsg.check (m : PMsg) : Nat := checkK m.k m.f m.t m.d.length m.es
/-- the state behind the first eight numbers, behind the bytes -/
def st4 (l : List UInt8) : RdSt := rdN 1 (rdN 1 (rdN 1 (rdN 1 (l, false))))
def st8 (l : List UInt8) : RdSt := rdN 8 (rdN 8 (rdN 8 (rdN 8 (st4 l))))
def st9 (l : List UInt8) : RdSt := rbN (st8 l)
def flagV (l : List UInt8) : Nat := rdV 1 (rdN 1 (rdN 1 (rdN 1 (l, false))))
def entsV (l : List UInt8) : List Key × RdSt := decE (rdV 1 (st9 l)) (rdN 1 (st9 l))
/-- what is read -/
def decP (l : List UInt8) : PMsg :=
  ⟨(rdV 1 (l, false) : Nat), (rdV 1 (rdN 1 (l, false)) : Nat), (rdV 1 (rdN 1 (rdN 1 (l, false))) : Nat), rdV 8 (st4 l), rdV 8 (rdN 8 (st4 l)), rdV 8 (rdN 8 (rdN 8 (st4 l))), rdV 8 (rdN 8 (rdN 8 (rdN 8 (st4 l)))),
   ((flagV l : Nat) : Int) == 1, rbV (st8 l), (entsV l).1⟩
/-- what is wrong with it -/
def decC (l : List UInt8) : Nat := if endE (entsV l).2.2 (entsV l).2.1 ≠ 0 then endE (entsV l).2.2 (entsV l).2.1 else if 1 < flagV l then 32 else (decP l).check
def decM (l : List UInt8) : PMsg := if decC l = 0 then decP l else PMsg.zero
theorem endE_lt (s : Bool) (l : List UInt8) : endE s l < 100 := by unfold endE; split <;> (try split) <;> omega
end Go.Proofs.YtciolppoanfiaaaDoor
