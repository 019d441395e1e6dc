/- slices.Delete at timers; Stop. -/
import Derived.Test.YtcocakbopbehjaaClkSet
namespace Go.Proofs.Ytcocakbopbehjaa
open Go.RowKit
theorem tm_zero (w : World) : (zeroValue 62).run Try.prog w = .ok (.agg #[.int .i64 0, .int .u64 0]) w := by kernel_rfl
theorem tm_z1 (n : Nat) : ∀ v ∈ (Builtin.zeroCells (Value.agg #[.int .i64 0, .int .u64 0]).cells n).toList, v.oneCell' = true := by
  intro v hv
  simp only [Builtin.zeroCells, Array.toList_map, List.mem_map] at hv
  obtain ⟨i, -, rfl⟩ := hv
  have h2 : i % 2 = 0 ∨ i % 2 = 1 := by omega
  rcases h2 with h | h
  · show (#[Value.int .i64 0, Value.int .u64 0][i % 2]!).oneCell' = true
    rw [h]; rfl
  · show (#[Value.int .i64 0, Value.int .u64 0][i % 2]!).oneCell' = true
    rw [h]; rfl
set_option maxHeartbeats 1600000 in
set_option maxRecDepth 1000000 in
theorem cdelete_any (v : Value) (n i : Nat) (ts : List Tm) (w : World) (hown : w.ownsRow 0 62 2 v n (tcells ts)) (hi : i < n) (hn : n ≤ 1000000) :
    Calls Try.prog 31 #[v, .int .i64 (i : Int), .int .i64 ((i : Int) + 1)] w fun e w' => ∃ v', e = .returned v' ∧ w'.ownsRow 0 62 2 v' (n - 1) (tcells (ts.eraseIdx i)) ∧ w.grownBy w' v.ownBlock ∧ v'.ownBlock = v.ownBlock := by
  obtain ⟨i0, hi0, hz0, hz1, hz2⟩ := info_parts tm_info
  have hlen : (tcells ts).length = n * 2 := hown.1
  have htl : ts.length = n := by rw [tcells_len] at hlen; omega
  obtain ⟨b, cap, rfl, -, -⟩ := hown.form (by omega)
  obtain ⟨A0, c0, hv0, hsl⟩ := own_sl hown
  have hnc : n ≤ cap := by have := hsl.cap; injection hv0 with _ _ e; omega
  have hcm' : cap ≤ 9223372036854775807 := by have := hsl.max; injection hv0 with _ _ e; omega
  clear hsl hv0
  obtain ⟨hsome, hfz⟩ := own_here hown
  have hcell : ∀ j u, (tcells ts)[j]? = some u → w.cell? ⟨b, j, none⟩ = some u := fun j u hu => by have := hown.cells (g := b) rfl j u hu; rwa [addr0] at this
  obtain ⟨mv, hmv⟩ : ∃ m, (tcells ts).drop ((i + 1) * 2) = m := ⟨_, rfl⟩
  have hml : mv.length = (n - (i + 1)) * 2 := by rw [← hmv, List.length_drop, hlen]; omega
  obtain ⟨A, hA, hnews⟩ : ∃ A : Addr, (if cap = i + 1 then some (⟨b, 0, none⟩ : Addr) else some ⟨b, (i + 1) * 2, none⟩) = some A ∧ Hid (∀ j u, mv[j]? = some u → w.drew.cell? (A.add j) = some u) := by
    by_cases h : cap = i + 1
    · refine ⟨⟨b, 0, none⟩, by simp [h], fun j u hu => ?_⟩
      have h0 : mv.length = 0 := by omega
      rw [List.length_eq_zero_iff.1 h0] at hu
      simp at hu
    · refine ⟨⟨b, (i + 1) * 2, none⟩, by simp [h], fun j u hu => ?_⟩
      rw [Addr.add_lit]
      rw [← hmv, List.getElem?_drop] at hu
      exact hcell _ _ hu
  have s1 : Hid (mv.length = (n - (i + 1)) * 2) := hml
  have s2 : Hid (∀ u ∈ mv, u.oneCell' = true) := fun u hu => tcells_one ts u (List.mem_of_mem_drop (hmv ▸ hu))
  have s3 : Hid (∀ j, j < mv.length → (w.drew.cell? ⟨b, 0 + i * 2 + j, none⟩).isSome = true ∧ w.drew.frozen? ⟨b, 0 + i * 2 + j, none⟩ = false) := by
    intro j hj
    rw [Nat.zero_add]
    exact ⟨hsome (i * 2 + j) (by omega), hfz _⟩
  have r1 := own_setCells (w := w.drew) hown rfl (i * 2) mv (by omega)
  have hWb : ∀ j, j < n * 2 → ((w.drew.setCells b (i * 2) mv).cell? ⟨b, j, none⟩).isSome = true := (own_here r1).1
  have hWf : ∀ j, (w.drew.setCells b (i * 2) mv).frozen? ⟨b, j, none⟩ = false := fun j => by rw [World.frozen?_setCells]; exact hfz j
  have FIN : Hid (∀ vs : List Value, vs.length = 1 * 2 → ∀ W, W = (w.drew.setCells b (i * 2) mv).setCells b ((i + (n - (i + 1))) * 2) vs → W.ownsRow 0 62 2 (.slice (some ⟨b, 0, none⟩) (i + (n - (i + 1))) cap) (n - 1) (tcells (ts.eraseIdx i)) ∧ w.grownBy W (some b)) := by
    rintro vs hvs W rfl
    refine ⟨?_, grown_setCells _ _ (grown_setCells _ _ ⟨rfl, rfl, rfl, Nat.le_refl _, fun _ _ _ => rfl⟩)⟩
    have him : i + (n - (i + 1)) = n - 1 := by omega
    rw [him]
    have r2 := own_setCells r1 rfl ((n - 1) * 2) vs (by omega)
    have r3 := own_cut r2 (show n - 1 ≤ n by omega)
    have he : (List.take ((n - 1) * 2) (List.take ((n - 1) * 2) (List.take (i * 2) (tcells ts) ++ mv ++ List.drop (i * 2 + mv.length) (tcells ts)) ++ vs ++ List.drop ((n - 1) * 2 + vs.length) (List.take (i * 2) (tcells ts) ++ mv ++ List.drop (i * 2 + mv.length) (tcells ts)))) = tcells (ts.eraseIdx i) := by
      have hl2 : (List.take (i * 2) (tcells ts) ++ mv).length = (n - 1) * 2 := by rw [List.length_append, List.length_take, hlen, hml]; omega
      rw [List.append_assoc (List.take ((n - 1) * 2) _), List.take_append_of_le_length (by rw [List.length_take, List.length_append, hl2]; omega), List.take_take, Nat.min_self, List.take_append_of_le_length (by omega), List.take_of_length_le (by omega), List.eraseIdx_eq_take_drop_succ, tcells_append, tcells_take, tcells_drop, hmv]
    rw [he] at r3
    exact r3
  have hcl : Hid (∀ j, j < 1 * 2 → ((w.drew.setCells b (i * 2) mv).cell? ⟨b, (i + (n - (i + 1))) * 2 + j, none⟩).isSome = true) := fun j hj => hWb _ (by omega)
  have hcf : Hid (∀ j, j < 1 * 2 → (w.drew.setCells b (i * 2) mv).frozen? ⟨b, (i + (n - (i + 1))) * 2 + j, none⟩ = false) := fun j hj => hWf _
  have hic : i ≤ cap := by omega
  have hwr : IntKind.i64.wrap ((i : Int) + 1) = (i : Int) + 1 := by rw [IntKind.wrap_i64]; omega
  have hp0 : (0 : Int) ≤ (i : Int) + 1 := by omega
  have hp1 : (i : Int) + 1 ≤ (n : Int) := by omega
  have hp2 : ((i : Int) + 1).toNat = i + 1 := by omega
  have hne : ((i : Int) == (i : Int) + 1) = false := by simp; omega
  clear hcell hfz hmv hown hlen hsome r1 hWb hWf htl
  go_enter Try.func31, Try.ntmps31
  go_wp2_with fail
  go_region_law (refine step_append_room rfl (.tmp 22) (.tmp 25) 56 rfl 62 i0 2 Try.underlying56 hi0 hz1 b 0 i cap (by simp [Act.eval, Act.put]) A (n - (i + 1)) (cap - (i + 1)) mv (by simp [Act.eval, Act.put]) s1.out hnews.out s2.out (by omega) s3.out ?_)
  obtain ⟨m, hm⟩ : ∃ m, i + (n - (i + 1)) = m := ⟨_, rfl⟩
  have hmn : n = m + 1 := by omega
  rw [hm] at FIN hcl hcf
  simp only [hm]
  clear hm hA hnews s1 s2 s3 hwr hp0 hp1 hp2 hne
  subst hmn
  have hcm3 : ¬ cap = m := by omega
  go_wp2_with (with_reducible refine wpList_clear_k _ rfl (.tmp 31) 56 rfl 62 (.agg #[.int .i64 0, .int .u64 0]) 2 Try.underlying56 tm_zero tm_z1 rfl b (m * 2) 1 (cap - m) rfl (by omega) hcl.out hcf.out ?_; intro vs hvs)
  go_ret
  exact ⟨_, rfl, (FIN.out vs hvs _ rfl).1, (FIN.out vs hvs _ rfl).2, rfl⟩
section
variable {H : Nat} {O : Nat → Prop} {g : Nat} {ns : List PN}
set_option maxRecDepth 100000 in
theorem cstop_no (i id : Int) (w : World) (h : ClkAt H w O g ns) (hi : ¬ (0 ≤ i ∧ i < (ns.length : Int))) :
    Calls Try.prog 15 #[.pointer (some ⟨g, 0, none⟩), .int .i64 i, .int .i64 id] w fun e w' => e = .returned (.int .i64 31) ∧ w = w' := by
  have hC := cnode_no i w h hi
  clear h hi
  go_enter Try.func15, Try.ntmps15
  go_wp2_with fail
  refine hC.mono ?_
  rintro e _ ⟨rfl, rfl⟩
  go_wp2
  go_ret
  exact ⟨rfl, rfl⟩
set_option maxRecDepth 100000 in
set_option maxHeartbeats 1600000 in
theorem cstop_any (i : Nat) (id : Int) (w : World) (h : ClkAt H w O g ns) {p p' : PN} {E : Nat} (hi : ns[i]? = some p) (hstop : p.stop id = (p', E)) :
    Calls Try.prog 15 #[.pointer (some ⟨g, 0, none⟩), .int .i64 (i : Int), .int .i64 id] w fun e w' => e = .returned (.int .i64 (E : Int)) ∧ ∃ O', ClkAt H w' O' g (ns.set i p') ∧ Sub O w O' ∧ Chg O w w' := by
  have HST : Hid (∀ w1, Below w.heap.size w w1 → ∃ O', ClkAt H w1 O' g (ns.set i p) ∧ Sub O w O' ∧ Chg O w w1) := fun w1 hb => stay h hi hb
  obtain ⟨⟨xb, xv, xp⟩, hG⟩ := h.got hi
  obtain ⟨hC, rfl, hN, ht⟩ := hG
  have hF := cfind_any id _ w hN
  obtain ⟨A, c, hv, -⟩ := own_sl hN.row
  have hok := hN.ok
  obtain ⟨now, ts, pz⟩ := xp
  simp only at hC hv hF HST hstop
  subst hv
  have HT := Lib.hid ht
  have HN := Lib.hid hN
  have hnow : now < 18446744073709551616 := hok.now
  have hlen : ts.length ≤ 40 := hok.len
  have HTS := Lib.hid hok.ts
  simp only at HTS
  obtain ⟨n, hn⟩ : ∃ n, ts.length = n := ⟨_, rfl⟩
  unfold PN.stop at hstop
  simp only [hn] at hstop hF hlen
  have HNL := Lib.hid hn
  clear h hi hN ht hok hn
  go_enter Try.func15, Try.ntmps15
  go_wp2_with fail
  refine hC.mono ?_
  rintro e _ ⟨rfl, rfl⟩
  go_wp2_with fail
  refine hF.mono ?_
  rintro e w2 ⟨hb2, hcase⟩
  have hN2 := HN.out.keep (hb2.block _ HN.out.blk.lt) fun b hb => hb2.block b (HN.out.row.lt b hb).2
  obtain ⟨x0, x1, x2⟩ := hN2.blk.c3
  simp only [HNL.out] at x0 x1 x2
  rcases hcase with ⟨rfl, hno⟩ | ⟨hk, rfl⟩
  · rw [if_neg hno] at hstop
    injection hstop with e1 e2
    subst e1 e2
    go_wp2
    go_ret
    exact ⟨rfl, HST.out _ hb2⟩
  · rw [if_pos hk] at hstop
    injection hstop with e1 e2
    subst e1 e2
    generalize hkk : fidx id ts = k at hk ⊢
    have hk0 : ¬ ((k : Int) < 0) := by omega
    have hD := cdelete_any _ ts.length k ts w2 hN2.row (by rw [HNL.out]; exact hk) (by rw [HNL.out]; omega)
    simp only [HNL.out] at hD
    have hw : IntKind.i64.wrap ((k : Int) + 1) = (k : Int) + 1 := by rw [IntKind.wrap_i64]; omega
    have HD := Lib.hid hD
    have HN2 := Lib.hid hN2
    have HB2 := Lib.hid hb2
    have HK := Lib.hid hkk
    clear hD hN2 hb2 hkk
    go_wp2_with fail
    refine HD.out.mono ?_
    rintro e w3 ⟨v', rfl, hown, hg, hob⟩
    obtain ⟨A', c', hv', -⟩ := own_sl hown
    subst hv'
    have hN2 := HN2.out
    have hnv : (Value.slice A ts.length c).ownBlock ≠ some xb := row_ne hN2.row hN2.blk (by decide)
    rw [HNL.out] at hnv
    have hb3 := hN2.blk.grown hg fun e => hnv e.symm
    simp only at hb3
    have f1 := hb3.frozen 1
    obtain ⟨y0, y1, y2⟩ := hb3.c3
    have HN2 := Lib.hid hN2
    have HB3 := Lib.hid hb3
    have HNV := Lib.hid hnv
    clear hN2 hb3 hnv
    go_wp2
    go_ret
    refine ⟨rfl, ?_⟩
    rw [HK.out]
    refine HT.out _ (.slice A' (n - 1) c') ⟨now, ts.eraseIdx k, pz⟩ (Chg.put ((Chg.below HB2.out).same (Chg.grown (O := fun k => k = xb ∨ (Value.slice A ts.length c).ownBlock = some k) hg fun b hb => .inl (.inr (by rw [HNL.out]; exact hb)))) (.inl rfl) 1 _) ⟨?_, ?_, ⟨hnow, ?_, ?_⟩⟩ (.inl (by rw [hob, HNL.out]))
    · have := HB3.out.set_ 1 (.slice A' (n - 1) c')
      simpa using this
    · show World.ownsRow _ _ _ _ _ (ts.eraseIdx k).length _
      rw [List.length_eraseIdx_of_lt (by rw [HNL.out]; exact hk), HNL.out]
      exact own_far hown (fun e => HNV.out (hob ▸ e)) _ _
    · show (ts.eraseIdx k).length ≤ 40
      rw [List.length_eraseIdx_of_lt (by rw [HNL.out]; exact hk), HNL.out]; omega
    · exact fun t ht => HTS.out t (List.mem_of_mem_eraseIdx ht)
end
end Go.Proofs.Ytcocakbopbehjaa
