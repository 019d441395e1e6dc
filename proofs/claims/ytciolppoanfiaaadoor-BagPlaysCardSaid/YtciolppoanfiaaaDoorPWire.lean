/- Messages as bytes: plain. -/
import Derived.Test.YtciolppoanfiaaaDoorXCheck2
namespace Go.Proofs.YtciolppoanfiaaaDoor

/-- an entry, as it is written and read: term, kind, bytes -/
abbrev Key := Nat × Int × List UInt8
/-- a reader: what is left, whether it is shut -/
abbrev RdSt := List UInt8 × Bool
def rdV (n : Nat) (s : RdSt) : Nat := le (rdT s.2 s.1 n)
def rdN (n : Nat) (s : RdSt) : RdSt := (rdL s.2 s.1 n, rdS s.2 s.1 n)
def rbV (s : RdSt) : List UInt8 := rbT s.2 s.1
def rbN (s : RdSt) : RdSt := (rbL s.2 s.1, rbS s.2 s.1)
/-- the state behind an entry; the entry -/
def entN (s : RdSt) : RdSt := rbN (rdN 1 (rdN 8 s))
def entV (s : RdSt) : Key := (rdV 8 s, (rdV 1 (rdN 8 s) : Int), rbV (rdN 1 (rdN 8 s)))
/-- so many entries, while there are bytes -/
def decE : Nat → RdSt → List Key × RdSt
  | 0, s => ([], s)
  | n + 1, s => if (entN s).2 then ([], entN s) else (entV s :: (decE n (entN s)).1, (decE n (entN s)).2)
theorem decE_stop {n : Nat} {s : RdSt} (h : (entN s).2 = true) : decE (n + 1) s = ([], entN s) := by simp [decE, h]
theorem decE_go {n : Nat} {s : RdSt} (h : (entN s).2 = false) : decE (n + 1) s = (entV s :: (decE n (entN s)).1, (decE n (entN s)).2) := by simp [decE, h]
theorem rdN_len (n : Nat) (s : RdSt) : (rdN n s).1.length ≤ s.1.length := rdL_len s.2 s.1 n
theorem rbN_len (s : RdSt) : (rbN s).1.length ≤ s.1.length := by
  unfold rbN rbL
  exact Nat.le_trans (rdL_len _ _ _) (rdL_len _ _ _)
theorem entN_len (s : RdSt) : (entN s).1.length ≤ s.1.length := by
  unfold entN
  exact Nat.le_trans (rbN_len _) (Nat.le_trans (rdN_len _ _) (rdN_len _ _))
theorem rdV_lt1 (s : RdSt) : rdV 1 s < 256 := by
  have := le_bound _ 1 (rdT_len s.2 s.1 1)
  simpa [rdV] using this
theorem rdV_lt8 (s : RdSt) : rdV 8 s < 18446744073709551616 := by
  have := le_bound _ 8 (rdT_len s.2 s.1 8)
  simpa [rdV] using this
end Go.Proofs.YtciolppoanfiaaaDoor
