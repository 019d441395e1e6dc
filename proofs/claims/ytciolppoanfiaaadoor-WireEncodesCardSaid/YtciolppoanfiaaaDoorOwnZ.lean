/- append(x, make([]T, k)...) onto a row of the call's own, T of one cell. -/
import Derived.Test.YtciolppoanfiaaaDoorOwn
import Derived.Lib.AppendZerosOnto
import Derived.Lib.AppendZeros
namespace Go.Proofs.YtciolppoanfiaaaDoor
open Go.RowKit
theorem zeroCells_one (z : Value) (k : Nat) : Builtin.zeroCells #[z] k = (List.replicate k z).toArray := by
  apply Array.ext
  · simp [Builtin.zeroCells]
  · intro i h1 h2
    simp [Builtin.zeroCells, Nat.mod_one]
section
variable {P : Program} (w : World)
theorem run_app_zeros (base : Nat) (t tn ty e : TypeId) (i : TypeInfo) (z : Value) (bytes : Nat) (kn : IntKind) (ht : P.underlying t = some (.slice e)) (htn : P.underlying tn = some (.int kn)) (hi : P.info? e = some i) (hz : i.zero = some z)
    (hsize : i.size = 1) (hby : i.bytes = bytes) (hzs : z.cells = #[z]) (hz1 : z.oneCell' = true)
    (v : Value) (n : Nat) (xs : List Value) (hown : w.ownsRow base e 1 v n xs) (k : Nat)
    (h63 : n + k ≤ maxLen) (hbytes : (n + k) * bytes ≤ 140737488355328) (hbase : base ≤ w.heap.size) :
    ∃ v' w', (Builtin.append_ #[t, tn] ty #[v, .int .i64 (k : Int)]).run P w = .ok v' w' ∧ w'.ownsRow base e 1 v' (n + k) (xs ++ List.replicate k z) ∧ w.grownBy w' v.ownBlock := by
  subst hby
  have hsmall : n + k ≤ 9223372036854775807 := by simp only [maxLen] at h63; omega
  have hw : IntKind.i64.wrap (k : Int) = k := by rw [IntKind.wrap_i64]; omega
  have hneg : ¬ ((k : Int) < 0) := by omega
  have hkb : k * i.bytes ≤ 140737488355328 := Nat.le_trans (Nat.mul_le_mul_right _ (by omega)) hbytes
  have h48i : ¬ (281474976710656 < (k : Int) * (i.bytes : Int)) := by
    rw [← Int.natCast_mul]
    omega
  have grown : ∀ (old : Nat), old < n + k →
      (w.drew.alloc (.cells (xs.toArray ++ Builtin.zeroCells z.cells k ++ Builtin.zeroCells z.cells (grownCap w (n + k) old e - (n + k))) e)).ownsRow base e 1
        (.slice (some ⟨w.heap.size, 0, none⟩) (n + k) (grownCap w (n + k) old e)) (n + k) (xs ++ List.replicate k z) := by
    intro old ho
    have hge := grownCap_ge w (n + k) old e
    have hcm : grownCap w (n + k) old e ≤ maxLen := grownCap_le_maxLen w (n + k) old e h63
    have hxl : xs.length = n := by simpa using hown.1
    refine ⟨by simp [hxl], .inr ⟨w.heap.size, _, _, rfl, hbase, heap_alloc_new w.drew _, hge, hcm, ?_, ?_⟩⟩
    · rw [hzs]
      simp only [zeroCells_one, Array.size_append, List.size_toArray, List.length_replicate, hxl]
      omega
    · rw [hzs]
      simp only [zeroCells_one, Array.toList_append, Nat.mul_one]
      rw [List.take_append_of_le_length (by simp [hxl])]
      exact List.take_of_length_le (by simp [hxl])
  by_cases hk0 : k = 0
  · subst hk0
    have hw0 : IntKind.i64.wrap 0 = 0 := by decide
    refine ⟨v, w, ?_, by simpa using hown, ⟨rfl, rfl, rfl, Nat.le_refl _, fun _ _ _ => rfl⟩⟩
    rcases hown.2 with ⟨rfl, rfl⟩ | ⟨g, cap, cur, rfl, _, _, hnc, _⟩
    · simp [Builtin.append_, run_underlying ht, run_underlying htn, sizeOf, typeInfo, hi, asInt, asIntOf, hw0]
    · simp [Builtin.append_, run_underlying ht, run_underlying htn, sizeOf, typeInfo, hi, asInt, asIntOf, hw0, hnc, storeCells]
  · rcases hown.2 with ⟨rfl, rfl⟩ | ⟨g, cap, cur, rfl, hbg, hg, hnc, hcm, hcs, htake⟩
    · have hx : xs = [] := List.eq_nil_of_length_eq_zero (by simpa using hown.1)
      subst hx
      have hr := Lib.run_append_nil_zeros (P := P) w t tn ty e i z .i64 kn ht htn hi hz k (by omega) (by omega) (by omega) (by omega)
      have hgr := grown 0 (by omega)
      simp only [Nat.zero_add, List.nil_append, Array.empty_append] at hgr ⊢
      exact ⟨_, _, hr, hgr, ⟨rfl, rfl, rfl, by simp, fun _ hq _ => heap_alloc_old w.drew _ hq⟩⟩
    · by_cases hroom : n + k ≤ cap
      · have hfit : n + 0 + (List.replicate k z).length ≤ cur.size := by simp; omega
        have hst := run_storeCells_at P g n e (List.replicate k z) 0 cur w hg hfit (by intro u hu; rw [List.eq_of_mem_replicate hu]; exact hz1)
        have hns : ¬ (k * 1 = 0) := by omega
        refine ⟨.slice (some ⟨g, 0, none⟩) (n + k) cap, w.setRow g (cur.toList.take (n + 0) ++ List.replicate k z ++ cur.toList.drop (n + 0 + (List.replicate k z).length)).toArray, ?_, ⟨?_, .inr ⟨g, cap, (cur.toList.take (n + 0) ++ List.replicate k z ++ cur.toList.drop (n + 0 + (List.replicate k z).length)).toArray, rfl, hbg, setRow_heap w g cur _ e _ hg, hroom, hcm, ?_, ?_⟩⟩, ⟨rfl, rfl, rfl, by simp, fun q _ hq => setRow_other w g q _ (fun e => hq (by simp [Value.ownBlock, e]))⟩⟩
        · have hneg2 : ¬ ((k : Int) * (i.bytes : Int) > 281474976710656) := h48i
          simp [Builtin.append_, run_underlying ht, run_underlying htn, sizeOf, typeInfo, zeroValue, hi, hz, hsize, asInt, asIntOf, hw, hneg, h48i, hk0, hroom, Addr.add_lit, hzs, zeroCells_one]
          simp only [Nat.add_zero, List.append_assoc, List.length_replicate] at hst ⊢
          simp [hst]
        · have hxl : xs.length = n := by simpa using hown.1
          simp [hxl]
        · simp; omega
        · simp only [Nat.mul_one, Nat.add_zero]
          have e1 : cur.toList.take n = xs := by simpa using htake
          have hxl : xs.length = n := by simpa using hown.1
          rw [e1, List.append_assoc, ← List.append_assoc]
          rw [List.take_append_of_le_length (by simp [hxl])]
          exact List.take_of_length_le (by simp [hxl])
      · have holds : ∀ j u, xs[j]? = some u → w.cell? ((⟨g, 0, none⟩ : Addr).add j) = some u := hown.cells (g := g) rfl
        have hold : (Builtin.firstCells i.size n (.slice (some ⟨g, 0, none⟩) n cap)).run P w.drew = .ok xs.toArray w.drew :=
          run_firstCells_some w.drew i.size n ⟨g, 0, none⟩ n cap xs (by rw [hsize]; exact hown.1) (fun j u hj => holds j u hj)
        have hr := Lib.run_append_grow_zeros (P := P) w t tn ty e i z .i64 kn ht htn hi hz (some ⟨g, 0, none⟩) n cap xs hold k (by omega) (by omega) (by omega) (by omega) (by omega) (growslice_fits (by omega) hbytes)
        exact ⟨_, _, hr, grown cap (by omega), ⟨rfl, rfl, rfl, by simp, fun _ hq _ => heap_alloc_old w.drew _ hq⟩⟩
end
end Go.Proofs.YtciolppoanfiaaaDoor
