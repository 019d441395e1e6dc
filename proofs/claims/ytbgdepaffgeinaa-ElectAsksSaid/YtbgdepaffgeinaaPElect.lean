/- The nodes that ask, in plain words. -/
import Derived.Test.YtbgdepaffgeinaaEzLast
namespace Go.Proofs.Ytbgdepaffgeinaa
open Go.RowKit
structure ND where
  me : Int
  vote : Int
  role : Int
  lead : Int
  conf : List Int
  yes : List Int
  term : Nat
  base : Nat
  bt : Nat
  es : List Ent
  heard : Bool
  next : List Nat
  mt : List Nat
/-- a message that asks or answers -/
structure Ms where
  kind : Int
  src : Int
  dst : Int
  term : Nat
  index : Nat
  prev : Nat
  ok : Bool
def agrees (conf yes : List Int) : Bool := decide (conf.length / 2 + 1 ≤ (conf.filter fun i => yes.contains i).length)
def tent (t : Nat) : Ent := ⟨t, 0, none, 0, []⟩
def newerB (base bt : Nat) (es : List Ent) (t i : Nat) : Bool := decide (lastTerm base bt es < t ∨ (t = lastTerm base bt es ∧ base + es.length ≤ i))
namespace ND
def last (x : ND) : Nat := x.base + x.es.length
def lastT (x : ND) : Nat := lastTerm x.base x.bt x.es
def follow (x : ND) (t : Nat) (l : Int) : ND := { x with term := if x.term < t then t else x.term, vote := if x.term < t then -1 else x.vote, role := 0, lead := l, yes := [] }
def others (x : ND) : List Int := x.conf.filter fun i => !(i == x.me)
def toLead (x : ND) : ND := { x with role := 3, lead := x.me, yes := [], es := x.es ++ [tent x.term], next := List.replicate 16 (x.last + 1), mt := (List.replicate 16 0).set x.me.toNat (x.last + 1) }
def reals (x : ND) : ND := { x with term := x.term + 1, vote := x.me, role := 2, lead := -1, yes := [x.me] }
def asks (x : ND) : ND := { x with role := 1, lead := -1, yes := [x.me] }
def toAll (x : ND) (k : Int) (t i p : Nat) : List Ms := x.others.map fun d => ⟨k, x.me, d, t, i, p, false⟩
def askReal (x : ND) : ND × List Ms :=
  if x.conf.contains x.me then
    if agrees x.conf [x.me] then (x.reals.toLead, []) else (x.reals, x.toAll 1 (x.term + 1) x.last x.lastT)
  else (x, [])
def askPre (x : ND) : ND × List Ms :=
  if x.conf.contains x.me then
    if agrees x.conf [x.me] then x.asks.askReal else (x.asks, x.toAll 3 (x.term + 1) x.last x.lastT)
  else (x, [])
def chosen (x : ND) : ND × List Ms := if x.role = 1 then x.askReal else (x.toLead, [])
def newer (x : ND) (t i : Nat) : Bool := newerB x.base x.bt x.es t i
def onVote (x : ND) (f : Int) (t : Nat) (nw : Bool) : ND × List Ms :=
  if nw && (decide (t = x.term) && (decide (x.vote = -1) || decide (x.vote = f)) && decide (x.role = 0)) then ({ x with vote := f }, [⟨2, x.me, f, x.term, 0, 0, true⟩])
  else (x, [⟨2, x.me, f, x.term, 0, 0, false⟩])
def onAsk (x : ND) (k f : Int) (t i p : Nat) : ND × List Ms :=
  if k = 1 then (if x.term < t then x.follow t (-1) else x).onVote f t (x.newer p i)
  else if k = 3 then (x, [if x.newer p i && (decide (x.term < t) && !x.heard) then ⟨4, x.me, f, t, 0, 0, true⟩ else ⟨4, x.me, f, x.term, 0, 0, false⟩])
  else (x, [])
def counts (x : ND) (k f : Int) (t : Nat) (ok : Bool) : Bool :=
  ok && ((decide (x.role = 2) && decide (k = 2) && decide (t = x.term)) || (decide (x.role = 1) && decide (k = 4) && decide (t = x.term + 1))) && x.conf.contains f && !x.yes.contains f
def answer (x : ND) (k f : Int) (t : Nat) (ok : Bool) : ND × List Ms :=
  if x.counts k f t ok then
    let y : ND := { x with yes := x.yes ++ [f] }
    if agrees y.conf y.yes then y.chosen else (y, [])
  else (x, [])
def onAnswer (x : ND) (k f : Int) (t : Nat) (ok : Bool) : ND × List Ms :=
  if k = 2 ∨ k = 4 then (if x.term < t ∧ (ok = false ∨ k = 2) then x.follow t (-1) else x).answer k f t ok else (x, [])
end ND
end Go.Proofs.Ytbgdepaffgeinaa
