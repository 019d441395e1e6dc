import Derived.Test.YtbgdepaffgeinaaWLast2
namespace Go.Proofs.Ytbgdepaffgeinaa
open Go.RowKit

set_option maxRecDepth 100000 in
theorem rlast_any (base n c : Nat) (bt : Int) (A : Option Addr) (w : World) (hb : base < 1152921504606846976) (hn : n ≤ 1000) :
    Calls Try.prog 23 #[.agg #[.int .u64 (base : Int), .int .u64 bt, .slice A n c]] w fun e w' => e = .returned (.int .u64 ((base : Int) + n)) ∧ Below w.heap.size w w' := by
  go_enter Try.func23, Try.ntmps23
  go_wp2
  go_ret
  exact ⟨rfl, (Below.refl _ _).alloc (Nat.le_refl _) _⟩
set_option maxRecDepth 100000 in
theorem short_any (base n c : Nat) (A : Option Addr) (w : World) :
    Calls Try.prog 13 #[.int .u64 (base : Int), .slice A n c, .int .i64 30] w fun e w' => e = .returned (.bool (decide (base < 1152921504606846976 ∧ n ≤ 30))) ∧ w' = w := by
  by_cases h : base < 1152921504606846976
  · have hd : decide (base < 1152921504606846976 ∧ n ≤ 30) = decide ((n : Int) ≤ 30) := decide_eq_decide.2 (by omega)
    rw [hd]
    clear hd
    have hd2 : decide ((base : Int) < 1152921504606846976) = true := decide_eq_true (by omega)
    clear h
    go_enter Try.func13, Try.ntmps13
    go_wp2
    refine bodyPost_ret (results_tmp rfl _ _ _) rfl ⟨?_, rfl⟩
    simp
  · have hd : decide (base < 1152921504606846976 ∧ n ≤ 30) = false := decide_eq_false (by omega)
    rw [hd]
    clear hd
    have hd2 : decide ((base : Int) < 1152921504606846976) = false := decide_eq_false (by omega)
    clear h
    go_enter Try.func13, Try.ntmps13
    go_wp2
    refine bodyPost_ret (results_tmp rfl _ _ _) rfl ⟨?_, rfl⟩
    simp
set_option maxRecDepth 100000 in
theorem doc_any (base n c : Nat) (bt : Int) (A : Option Addr) (w : World) :
    Calls Try.prog 14 #[.agg #[.int .u64 (base : Int), .int .u64 bt, .slice A n c]] w fun e w' => e = .returned (.agg #[.int .u64 (base : Int), .int .u64 bt, .slice A n c]) ∧ Below w.heap.size w w' := by
  go_enter Try.func14, Try.ntmps14
  go_wp2
  refine bodyPost_ret (v := .agg #[.int .u64 (base : Int), .int .u64 bt, .slice A n c]) (by simp [results, Try.results14, go_sem]) rfl ⟨rfl, ((Below.refl _ w).alloc (Nat.le_refl _) _).alloc (by simp) _⟩
end Go.Proofs.Ytbgdepaffgeinaa
