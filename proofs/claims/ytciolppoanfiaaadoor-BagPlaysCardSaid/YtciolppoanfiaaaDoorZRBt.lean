import Derived.Test.YtciolppoanfiaaaDoorZRBa
import Derived.StillTail
import Derived.OrdersHeld
/- A region that draws its order, its last operation waiting for all others: what is held of the world need not be held behind that last one. -/
namespace Go.Proofs.YtciolppoanfiaaaDoor
open Go Go.RowKit
section
variable {P : Program} {ops : Array Oper} {Q : Exit → Act → World → Prop} {md : Region.Mode} {S : World → Prop} {n : Nat}
/-- whatever order is picked, and S holds behind every operation but number n -/
def wpAnyE (P : Program) (md : Region.Mode) (ops : Array Oper) (Q : Exit → Act → World → Prop) (S : World → Prop) (n : Nat) : Nat → Array Bool → Act → World → Prop
  | 0, listed, a, w => Region.ready md ops listed = [] ∧ Q .normal a w
  | fuel + 1, listed, a, w =>
    (Region.ready md ops listed = [] → Q .normal a w) ∧
    ∀ i ∈ Region.ready md ops listed, wpOp P ops Q i (fun a' w' => (i ≠ n → S w') ∧ wpAnyE P md ops Q S n fuel (listed.setIfInBounds i true) a' w') a w
theorem wpAny_of_E : ∀ (fuel : Nat) (listed : Array Bool) (a : Act) (w : World), wpAnyE P md ops Q S n fuel listed a w → wpAny P md ops Q fuel listed a w
  | 0, _, _, _, h => h
  | fuel + 1, _, _, _, h => ⟨h.1, fun i hi => wpOp_mono (fun a' w' h' => wpAny_of_E fuel _ a' w' h'.2) (h.2 i hi)⟩
theorem wpAnyE_first {i : Nat} {oi : Oper} {v : Value} (hi : ops[i]? = some oi) (hsel : ∀ (j : Nat) (o : Oper) cs b, ops[j]? = some o → o.op ≠ .select cs b) (hin : i ≠ n) (hw : Region.waitsFor md ops n i = true)
    (hQ : ∀ c a w, Q (.panic c) (a.put oi.dst v) w → Q (.panic c) a w) :
    ∀ (fuel : Nat) (listed : Array Bool) (a : Act) (w : World),
      (∀ j oj, ops[j]? = some oj → j ≠ i → listed.getD j true = false → (∀ e ∈ oj.after, Region.binds md e = true → e.on ≠ i) → oi.apart ops oj = true) →
      i ∈ Region.ready md ops listed → YieldsIf P ops S oi v a → S w →
      wpAnyE P md ops Q S n fuel (listed.setIfInBounds i true) (a.put oi.dst v) w → wpAnyE P md ops Q S n (fuel + 1) listed a w := by
  intro fuel
  induction fuel with
  | zero =>
    intro listed a w _ hr hy hS H
    refine ⟨fun h => (by rw [h] at hr; cases hr), fun j hj => ?_⟩
    by_cases hji : j = i
    · subst hji; exact hy.wpOp hi hS ⟨fun _ => hS, H⟩
    · have := ready_mono hj hji
      rw [H.1] at this
      cases this
  | succ fuel ih =>
    intro listed a w hfree hr hy hS H
    refine ⟨fun h => (by rw [h] at hr; cases hr), fun j hj => ?_⟩
    by_cases hji : j = i
    · subst hji; exact hy.wpOp hi hS ⟨fun _ => hS, H⟩
    · have h1 := H.2 j (ready_mono hj hji)
      obtain ⟨hjun, oj, hoj, hall⟩ := mem_ready.1 hj
      have hnot : ∀ e ∈ oj.after, Region.binds md e = true → e.on ≠ i := fun e he hb heq => by
        have h1 := hall e he hb
        have h0 := (mem_ready.1 hr).1
        rw [heq] at h1
        rcases Nat.lt_or_ge i listed.size with h' | h'
        · simp [h'] at h0 h1; rw [h0] at h1; cases h1
        · simp [Array.getElem?_eq_none h'] at h1
      have hjn : j ≠ n := fun e => by
        subst e
        obtain ⟨oj', ho', e', he', hb', hon⟩ := Region.waitsFor_spec hw
        rw [hoj] at ho'
        injection ho' with ho'
        subst ho'
        exact hnot e' he' hb' hon
      have h2 := wpOp_putIf hoj (hfree j oj hoj hji hjun hnot) (fun cs b => hsel i oi cs b hi) (fun cs b => hsel j oj cs b hoj) hQ hy h1
      have hfree' : ∀ k ok, ops[k]? = some ok → k ≠ i → (listed.setIfInBounds j true).getD k true = false →
          (∀ e ∈ ok.after, Region.binds md e = true → e.on ≠ i) → oi.apart ops ok = true := fun k ok hk hki hun hno => by
        refine hfree k ok hk hki ?_ hno
        by_cases hjk : j = k
        · subst hjk; exact hjun
        · rw [getD_set_ne true hjk] at hun; exact hun
      refine wpOp_mono (fun a' w' h3 => ⟨h3.2.1, ih (listed.setIfInBounds j true) a' w' hfree' (ready_mono hr (Ne.symm hji)) h3.1 (h3.2.1 hjn) ?_⟩) h2
      rw [Array.setIfInBounds_comm _ _ hji]
      exact h3.2.2
theorem wpAnyE_take {i : Nat} {oi : Oper} {v : Value} {fuel : Nat} {listed : Array Bool} {a : Act} {w : World} (hi : ops[i]? = some oi)
    (hs : Region.noSelect ops = true) (hf : Region.free md ops listed i = true) (hr : (Region.ready md ops listed).contains i = true) (hw : Region.waitsFor md ops n i = true) (hin : i ≠ n)
    (hQ : ∀ c a w, Q (.panic c) (a.put oi.dst v) w → Q (.panic c) a w) (hwant : Region.wanted oi (yielded ops a.tmps) = true) (hy : ∀ w, S w → (execOp a.eval oi).run P w = .ok (.value v) w) (hS : S w)
    (h : wpAnyE P md ops Q S n fuel (listed.setIfInBounds i true) (a.put oi.dst v) w) : wpAnyE P md ops Q S n (fuel + 1) listed a w :=
  wpAnyE_first hi (Region.noSelect_spec hs) hin hw hQ fuel listed a w (Region.free_spec hi hf) (by simpa using hr) (Or.inl ⟨hwant, hy⟩) hS h
theorem wpAnyE_all {rs : List Nat} {fuel : Nat} {listed : Array Bool} {a : Act} {w : World} (hr : Region.ready md ops listed = rs) (hne : rs ≠ [])
    (h : ∀ i ∈ rs, wpOp P ops Q i (fun a' w' => (i ≠ n → S w') ∧ wpAnyE P md ops Q S n fuel (listed.setIfInBounds i true) a' w') a w) : wpAnyE P md ops Q S n (fuel + 1) listed a w :=
  ⟨fun h0 => absurd (hr ▸ h0) hne, hr ▸ h⟩
/-- one operation comes up -/
theorem wpOp_E {fuel : Nat} {listed : Array Bool} {a : Act} {w : World} {i : Nat} {o : Oper} (ho : ops[i]? = some o)
    (h : ∀ K' : Act → World → Prop, Hid (∀ a w, (i ≠ n → S w) → ((i ≠ n → S w) → wpAnyE P md ops Q S n fuel (listed.setIfInBounds i true) a w) → K' a w) → if Region.wanted o (yielded ops a.tmps) = true then Oper.wp P o a w K' Q else K' (a.put o.dst undef) w) :
    wpOp P ops Q i (fun a' w' => (i ≠ n → S w') ∧ wpAnyE P md ops Q S n fuel (listed.setIfInBounds i true) a' w') a w :=
  wpOp_step ho (fun K' hK => h K' (fun a w hS hW => hK a w ⟨hS, hW hS⟩))
theorem wpAnyE_done {listed : Array Bool} {a : Act} {w : World} (hr : Region.ready md ops listed = []) (h : Q .normal a w) : ∀ fuel, wpAnyE P md ops Q S n fuel listed a w
  | 0 => ⟨hr, h⟩
  | _ + 1 => ⟨fun _ => h, by rw [hr]; simp⟩
theorem wp_region_E {id : Nat} {a : Act} {w : World} (hm : P.follows .mixedOrders = true) (h : wpAnyE P .any ops Q S n ops.size (Array.replicate ops.size false) a w.drew) : (Code.region id ops true).wp P Q a w :=
  wp_region_any hm (wpAny_of_E _ _ _ _ h)
end
end Go.Proofs.YtciolppoanfiaaaDoor

/- The document's bag: Twice, done. -/
namespace Go.Proofs.YtciolppoanfiaaaDoor
open Go.RowKit
section
variable {w w1 : World} {S S' : Nat → Prop} {g : Nat} {F : List RF} {cs : List (Int × Int)} {lost : Nat}
set_option maxRecDepth 100000 in
set_option maxHeartbeats 60000000 in
theorem rbtwice_ok (i : Nat) (w : World) (h : RB w S g F cs lost) {f : RF} (hf : F[i]? = some f) (h60 : F.length < 60) :
    Calls Tryd.prog 72 #[.pointer (some ⟨g, 0, none⟩), .int .i64 (i : Int)] w fun e w' => ∃ S', e = .returned (.int .i64 0) ∧ RB w' S' g (F ++ [f]) cs lost ∧ Chg (GO g) w w' ∧ ∀ b, S' b → S b ∨ w.heap.size ≤ b := by
  obtain ⟨i0, hi0, hz0, hz1, hz2⟩ := info_parts row_info
  have hi := (List.getElem?_eq_some_iff.1 hf).1
  have hC := rbin_any (i : Int) w h (decide_eq_true ⟨by omega, by omega⟩)
  have HC := Lib.hid hC
  have HH := Lib.hid h
  obtain ⟨-, -, Af, cf, Ac, cc, hbk, hlf, -, -⟩ := h
  obtain ⟨x0, x1, x2⟩ := hbk.c3
  have f0 := hbk.frozen 0
  have hgl := hbk.lt
  have hs := hlf.1
  obtain ⟨ad, u, rfl, hu, hc⟩ := hs.nth hi
  rw [List.getElem?_map, hf] at hu
  obtain rfl : f.v = u := by simpa using hu
  have hcap := hs.cap
  have hmax := hs.max
  have HF : Hid (∀ W, Below w.heap.size w W → Sl W 0 w.heap.size 1 (some ad) F.length cf (F.map RF.v)) := fun W hW => hs.after (by decide) hW
  have HB := Lib.hid hbk
  have HFI := Lib.hid (List.mem_of_getElem? hf)
  have HFF : Hid (f.v = .slice f.A f.l.length f.c) := rfl
  rw [HFF.out] at hc
  have HX : Hid (∀ W, Below w.heap.size w W → W.cell? ⟨g, 0, none⟩ = some (.slice (some ad) F.length cf) ∧ W.cell? (ad.add i) = some (.slice f.A f.l.length f.c)) := fun W hW => ⟨cell_belowR hW x0, cell_belowR hW hc⟩
  obtain ⟨n, hn⟩ : ∃ n, F.length = n := ⟨_, rfl⟩
  have HN := Lib.hid hn
  obtain ⟨m, hm⟩ : ∃ m, f.l.length = m := ⟨_, rfl⟩
  have HM := Lib.hid hm
  rw [hn] at x0 hcap hi h60 HF HX
  rw [hm] at hc HX HFF
  obtain ⟨fA, hfA⟩ : ∃ x, f.A = x := ⟨_, rfl⟩
  obtain ⟨fc, hfc⟩ : ∃ x, f.c = x := ⟨_, rfl⟩
  rw [hfA, hfc] at hc HX HFF
  have D0 : Below w.heap.size w w := Below.refl _ _
  clear hC hbk hlf hs hu hf hn hm hfA hfc
  go_enter Tryd.func72, Tryd.ntmps72
  go_wp2_with fail
  refine HC.out.mono ?_
  rintro e _ ⟨rfl, rfl⟩
  go_wp2_with fail
  have HK1 : Hid (∀ (W : World) (o : Obj), Below w.heap.size w W → Below w.heap.size w (W.alloc o)) := fun W o h => h.alloc h.size o
  have S0 : w.drew.cell? ⟨g, 0, none⟩ = some (.slice (some ad) n cf) ∧ w.drew.cell? (ad.add i) = some (.slice fA m fc) := HX.out _ D0.drew
  refine wp_region_E (S := fun W => W.cell? ⟨g, 0, none⟩ = some (.slice (some ad) n cf) ∧ W.cell? (ad.add i) = some (.slice fA m fc)) (n := 18) (by kernel_rfl) ?_
  refine wpAnyE_take (n := 18) (i := 0) (v := (.pointer (some ⟨g, 0, none⟩))) rfl (by kernel_rfl) (by kernel_rfl) (by kernel_rfl) (by kernel_rfl) (by decide) (fun _ _ _ h => h) (by rfl) (by rintro W ⟨s0, s1⟩; go_simp) S0 ?_
  try simp only [Act.put, List.setIfInBounds_toArray, List.set_cons_zero, List.set_cons_succ]
  refine wpAnyE_take (n := 18) (i := 2) (v := (.pointer (some ⟨g, 0, none⟩))) rfl (by kernel_rfl) (by kernel_rfl) (by kernel_rfl) (by kernel_rfl) (by decide) (fun _ _ _ h => h) (by rfl) (by rintro W ⟨s0, s1⟩; go_simp) S0 ?_
  try simp only [Act.put, List.setIfInBounds_toArray, List.set_cons_zero, List.set_cons_succ]
  refine wpAnyE_take (n := 18) (i := 3) (v := (.pointer (some ⟨g, 0, none⟩))) rfl (by kernel_rfl) (by kernel_rfl) (by kernel_rfl) (by kernel_rfl) (by decide) (fun _ _ _ h => h) (by rfl) (by rintro W ⟨s0, s1⟩; go_simp) S0 ?_
  try simp only [Act.put, List.setIfInBounds_toArray, List.set_cons_zero, List.set_cons_succ]
  refine wpAnyE_take (n := 18) (i := 4) (v := (.pointer (some ⟨g, 0, none⟩))) rfl (by kernel_rfl) (by kernel_rfl) (by kernel_rfl) (by kernel_rfl) (by decide) (fun _ _ _ h => h) (by rfl) (by rintro W ⟨s0, s1⟩; go_simp) S0 ?_
  try simp only [Act.put, List.setIfInBounds_toArray, List.set_cons_zero, List.set_cons_succ]
  refine wpAnyE_take (n := 18) (i := 5) (v := (.slice (some ad) n cf)) rfl (by kernel_rfl) (by kernel_rfl) (by kernel_rfl) (by kernel_rfl) (by decide) (fun _ _ _ h => h) (by rfl) (by rintro W ⟨s0, s1⟩; go_simp) S0 ?_
  try simp only [Act.put, List.setIfInBounds_toArray, List.set_cons_zero, List.set_cons_succ]
  refine wpAnyE_take (n := 18) (i := 7) (v := (.pointer (some ⟨g, 0, none⟩))) rfl (by kernel_rfl) (by kernel_rfl) (by kernel_rfl) (by kernel_rfl) (by decide) (fun _ _ _ h => h) (by rfl) (by rintro W ⟨s0, s1⟩; go_simp) S0 ?_
  try simp only [Act.put, List.setIfInBounds_toArray, List.set_cons_zero, List.set_cons_succ]
  refine wpAnyE_take (n := 18) (i := 8) (v := (.pointer (some ⟨g, 0, none⟩))) rfl (by kernel_rfl) (by kernel_rfl) (by kernel_rfl) (by kernel_rfl) (by decide) (fun _ _ _ h => h) (by rfl) (by rintro W ⟨s0, s1⟩; go_simp) S0 ?_
  try simp only [Act.put, List.setIfInBounds_toArray, List.set_cons_zero, List.set_cons_succ]
  refine wpAnyE_take (n := 18) (i := 9) (v := (.pointer (some ⟨g, 0, none⟩))) rfl (by kernel_rfl) (by kernel_rfl) (by kernel_rfl) (by kernel_rfl) (by decide) (fun _ _ _ h => h) (by rfl) (by rintro W ⟨s0, s1⟩; go_simp) S0 ?_
  try simp only [Act.put, List.setIfInBounds_toArray, List.set_cons_zero, List.set_cons_succ]
  refine wpAnyE_take (n := 18) (i := 10) (v := (.slice (some ad) n cf)) rfl (by kernel_rfl) (by kernel_rfl) (by kernel_rfl) (by kernel_rfl) (by decide) (fun _ _ _ h => h) (by rfl) (by rintro W ⟨s0, s1⟩; go_simp) S0 ?_
  try simp only [Act.put, List.setIfInBounds_toArray, List.set_cons_zero, List.set_cons_succ]
  refine wpAnyE_take (n := 18) (i := 11) (v := (.int .i64 (i : Int))) rfl (by kernel_rfl) (by kernel_rfl) (by kernel_rfl) (by kernel_rfl) (by decide) (fun _ _ _ h => h) (by rfl) (by rintro W ⟨s0, s1⟩; go_simp) S0 ?_
  try simp only [Act.put, List.setIfInBounds_toArray, List.set_cons_zero, List.set_cons_succ]
  refine wpAnyE_take (n := 18) (i := 12) (v := (.pointer (some (ad.add i)))) rfl (by kernel_rfl) (by kernel_rfl) (by kernel_rfl) (by kernel_rfl) (by decide) (fun _ _ _ h => h) (by rfl) (by rintro W ⟨s0, s1⟩; go_simp) S0 ?_
  try simp only [Act.put, List.setIfInBounds_toArray, List.set_cons_zero, List.set_cons_succ]
  refine wpAnyE_take (n := 18) (i := 13) (v := (.slice fA m fc)) rfl (by kernel_rfl) (by kernel_rfl) (by kernel_rfl) (by kernel_rfl) (by decide) (fun _ _ _ h => h) (by rfl) (by rintro W ⟨s0, s1⟩; go_simp) S0 ?_
  try simp only [Act.put, List.setIfInBounds_toArray, List.set_cons_zero, List.set_cons_succ]
  refine wpAnyE_all (rs := [1, 14]) (by kernel_rfl) (by simp) ?_
  intro j hj
  rcases List.mem_cons.1 hj with rfl | hj
  · refine wpOp_E rfl (fun K' hK => ?_)
    go_simp
    refine hK.out _ _ (fun _ => HX.out _ (HK1.out _ (.cells #[] 22) D0).drew) (fun SN => ?_)
    clear hK
    try simp only [Act.put, List.setIfInBounds_toArray, List.set_cons_zero, List.set_cons_succ]
    refine wpAnyE_all (rs := [6, 14]) (by kernel_rfl) (by simp) ?_
    intro j hj
    rcases List.mem_cons.1 hj with rfl | hj
    · refine wpOp_E rfl (fun K' hK => ?_)
      refine step_app _ rfl (.tmp 18) (.tmp 22) 34 rfl w.heap.size 22 i0 _ 1 24 Tryd.underlying34 hi0 hz0 hz1 hz2 rfl (by omega) (.slice (some ⟨w.heap.size, 0, none⟩) 0 0) 0 [] (by simp [Act.eval, Act.put]) (own_empty w _ 1 _ rfl) _ _ (some ad) n cf (F.map RF.v) (by simp [Act.eval, Act.put]) (HF.out _ (HK1.out _ (.cells #[] 22) D0).drew) (rf_one F) (by simp only [maxLen]; omega) (by omega) (by simp; try omega) ?_
      intro v1 w6 o6 g6 a6
      have D6 : Below w.heap.size w w6 := Below.grown (HK1.out _ (.cells #[] 22) D0).drew g6 (by simp; try omega) (fun k hk => by have h' : some (w.heap.size) = some k := hk; injection h' with h'; omega)
      refine hK.out _ _ (fun _ => HX.out _ D6) (fun SN => ?_)
      clear hK
      try simp only [Act.put, List.setIfInBounds_toArray, List.set_cons_zero, List.set_cons_succ]
      refine wpAnyE_all (rs := [14]) (by kernel_rfl) (by simp) ?_
      intro j hj
      obtain rfl := List.mem_singleton.1 hj
      refine wpOp_E rfl (fun K' hK => ?_)
      go_simp
      refine hK.out _ _ (fun _ => HX.out _ (HK1.out _ _ D6)) (fun SN => ?_)
      clear hK
      try simp only [Act.put, List.setIfInBounds_toArray, List.set_cons_zero, List.set_cons_succ]
      refine wpAnyE_all (rs := [15]) (by kernel_rfl) (by simp) ?_
      intro j hj
      obtain rfl := List.mem_singleton.1 hj
      refine wpOp_E rfl (fun K' hK => ?_)
      refine step_app _ rfl (.tmp 23) (.tmp 31) 34 rfl w.heap.size 22 i0 _ 1 24 Tryd.underlying34 hi0 hz0 hz1 hz2 rfl (by omega) v1 (0 + n) ([] ++ F.map RF.v) (by simp [Act.eval, Act.put]) (own_alloc' o6 _) _ _ (some ⟨w6.heap.size, 0, none⟩) 1 1 [.slice fA m fc] (by simp [Act.eval, Act.put]) (sl_one _ _ _) (by intro u hu; rw [List.mem_singleton.1 hu]; rfl) (by simp only [maxLen]; omega) (by omega) (by have := D6.size; simp; try omega) ?_
      intro v2 w7 o7 g7 a7
      have D7 : Below w.heap.size w w7 := Below.grown (HK1.out _ _ D6) g7 (by have := D6.size; simp; try omega) (fun k hk => (o6.lt k hk).1)
      refine hK.out _ _ (fun _ => HX.out _ D7) (fun SN => ?_)
      clear hK
      try simp only [Act.put, List.setIfInBounds_toArray, List.set_cons_zero, List.set_cons_succ]
      have z0 := (HX.out w7 D7).1
      have f7 := (HB.out.after D7).frozen 0
      obtain ⟨A7, c7, hv7, -⟩ := own_sl o7
      subst hv7
      refine wpAnyE_all (rs := [16]) (by kernel_rfl) (by simp) ?_
      intro j hj
      obtain rfl := List.mem_singleton.1 hj
      refine wpOp_E rfl (fun K' hK => ?_)
      go_simp
      refine hK.out _ _ (fun _ => HX.out _ D7) (fun SN => ?_)
      clear hK
      try simp only [Act.put, List.setIfInBounds_toArray, List.set_cons_zero, List.set_cons_succ]
      refine wpAnyE_all (rs := [17]) (by kernel_rfl) (by simp) ?_
      intro j hj
      obtain rfl := List.mem_singleton.1 hj
      refine wpOp_E rfl (fun K' hK => ?_)
      go_simp
      refine hK.out _ _ (fun _ => HX.out _ D7) (fun SN => ?_)
      clear hK
      try simp only [Act.put, List.setIfInBounds_toArray, List.set_cons_zero, List.set_cons_succ]
      refine wpAnyE_all (rs := [18]) (by kernel_rfl) (by simp) ?_
      intro j hj
      obtain rfl := List.mem_singleton.1 hj
      refine wpOp_E rfl (fun K' hK => ?_)
      go_simp
      refine hK.out _ _ (fun h => absurd rfl h) (fun _ => ?_)
      clear hK
      try simp only [Act.put, List.setIfInBounds_toArray, List.set_cons_zero, List.set_cons_succ]
      refine wpAnyE_done (by kernel_rfl) ?_ _
      go_wp2
      go_ret
      obtain ⟨S', r1, r2, r3⟩ := HH.out.push (w2 := w7) (f := f) (v := .slice A7 (0 + n + 1) c7) (by rw [HN.out]; have e : f.v = Value.slice fA m fc := HFF.out; rw [e]; simpa using o7) D7 (.inl HFI.out)
      simp only [Nat.zero_add] at r1 r2
      exact ⟨S', rfl, r1, r2, r3⟩
    · obtain rfl := List.mem_singleton.1 hj
      refine wpOp_E rfl (fun K' hK => ?_)
      go_simp
      refine hK.out _ _ (fun _ => HX.out _ (HK1.out _ (.cells #[.slice fA m fc] 22) (HK1.out _ (.cells #[] 22) D0)).drew) (fun SN => ?_)
      clear hK
      try simp only [Act.put, List.setIfInBounds_toArray, List.set_cons_zero, List.set_cons_succ]
      refine wpAnyE_all (rs := [6]) (by kernel_rfl) (by simp) ?_
      intro j hj
      obtain rfl := List.mem_singleton.1 hj
      refine wpOp_E rfl (fun K' hK => ?_)
      refine step_app _ rfl (.tmp 18) (.tmp 22) 34 rfl w.heap.size 22 i0 _ 1 24 Tryd.underlying34 hi0 hz0 hz1 hz2 rfl (by omega) (.slice (some ⟨w.heap.size, 0, none⟩) 0 0) 0 [] (by simp [Act.eval, Act.put]) (own_alloc' (own_empty w _ 1 _ rfl) _) _ _ (some ad) n cf (F.map RF.v) (by simp [Act.eval, Act.put]) (HF.out _ (HK1.out _ (.cells #[.slice fA m fc] 22) (HK1.out _ (.cells #[] 22) D0)).drew) (rf_one F) (by simp only [maxLen]; omega) (by omega) (by simp; try omega) ?_
      intro v1 w6 o6 g6 a6
      have D6 : Below w.heap.size w w6 := Below.grown (HK1.out _ (.cells #[.slice fA m fc] 22) (HK1.out _ (.cells #[] 22) D0)).drew g6 (by simp; try omega) (fun k hk => by have h' : some (w.heap.size) = some k := hk; injection h' with h'; omega)
      refine hK.out _ _ (fun _ => HX.out _ D6) (fun SN => ?_)
      clear hK
      try simp only [Act.put, List.setIfInBounds_toArray, List.set_cons_zero, List.set_cons_succ]
      refine wpAnyE_all (rs := [15]) (by kernel_rfl) (by simp) ?_
      intro j hj
      obtain rfl := List.mem_singleton.1 hj
      refine wpOp_E rfl (fun K' hK => ?_)
      refine step_app _ rfl (.tmp 23) (.tmp 31) 34 rfl w.heap.size 22 i0 _ 1 24 Tryd.underlying34 hi0 hz0 hz1 hz2 rfl (by omega) v1 (0 + n) ([] ++ F.map RF.v) (by simp [Act.eval, Act.put]) (o6) _ _ (some ⟨w.heap.size + 1, 0, none⟩) 1 1 [.slice fA m fc] (by simp [Act.eval, Act.put]) (Sl.grown (lo := w.heap.size + 1) (hi := w.heap.size + 2) (by have := (sl_one (w.alloc (.cells #[] 22)) (.slice fA m fc) 22).drew; simpa using this) (by decide) g6 (fun k hk => by have h' : some w.heap.size = some k := hk; injection h' with h'; omega)) (by intro u hu; rw [List.mem_singleton.1 hu]; rfl) (by simp only [maxLen]; omega) (by omega) (by have := D6.size; simp; try omega) ?_
      intro v2 w7 o7 g7 a7
      have D7 : Below w.heap.size w w7 := Below.grown D6 g7 (by have := D6.size; simp; try omega) (fun k hk => (o6.lt k hk).1)
      refine hK.out _ _ (fun _ => HX.out _ D7) (fun SN => ?_)
      clear hK
      try simp only [Act.put, List.setIfInBounds_toArray, List.set_cons_zero, List.set_cons_succ]
      have z0 := (HX.out w7 D7).1
      have f7 := (HB.out.after D7).frozen 0
      obtain ⟨A7, c7, hv7, -⟩ := own_sl o7
      subst hv7
      refine wpAnyE_all (rs := [16]) (by kernel_rfl) (by simp) ?_
      intro j hj
      obtain rfl := List.mem_singleton.1 hj
      refine wpOp_E rfl (fun K' hK => ?_)
      go_simp
      refine hK.out _ _ (fun _ => HX.out _ D7) (fun SN => ?_)
      clear hK
      try simp only [Act.put, List.setIfInBounds_toArray, List.set_cons_zero, List.set_cons_succ]
      refine wpAnyE_all (rs := [17]) (by kernel_rfl) (by simp) ?_
      intro j hj
      obtain rfl := List.mem_singleton.1 hj
      refine wpOp_E rfl (fun K' hK => ?_)
      go_simp
      refine hK.out _ _ (fun _ => HX.out _ D7) (fun SN => ?_)
      clear hK
      try simp only [Act.put, List.setIfInBounds_toArray, List.set_cons_zero, List.set_cons_succ]
      refine wpAnyE_all (rs := [18]) (by kernel_rfl) (by simp) ?_
      intro j hj
      obtain rfl := List.mem_singleton.1 hj
      refine wpOp_E rfl (fun K' hK => ?_)
      go_simp
      refine hK.out _ _ (fun h => absurd rfl h) (fun _ => ?_)
      clear hK
      try simp only [Act.put, List.setIfInBounds_toArray, List.set_cons_zero, List.set_cons_succ]
      refine wpAnyE_done (by kernel_rfl) ?_ _
      go_wp2
      go_ret
      obtain ⟨S', r1, r2, r3⟩ := HH.out.push (w2 := w7) (f := f) (v := .slice A7 (0 + n + 1) c7) (by rw [HN.out]; have e : f.v = Value.slice fA m fc := HFF.out; rw [e]; simpa using o7) D7 (.inl HFI.out)
      simp only [Nat.zero_add] at r1 r2
      exact ⟨S', rfl, r1, r2, r3⟩
  · obtain rfl := List.mem_singleton.1 hj
    refine wpOp_E rfl (fun K' hK => ?_)
    go_simp
    refine hK.out _ _ (fun _ => HX.out _ (HK1.out _ (.cells #[.slice fA m fc] 22) D0).drew) (fun SN => ?_)
    clear hK
    try simp only [Act.put, List.setIfInBounds_toArray, List.set_cons_zero, List.set_cons_succ]
    refine wpAnyE_all (rs := [1]) (by kernel_rfl) (by simp) ?_
    intro j hj
    obtain rfl := List.mem_singleton.1 hj
    refine wpOp_E rfl (fun K' hK => ?_)
    go_simp
    refine hK.out _ _ (fun _ => HX.out _ (HK1.out _ (.cells #[] 22) (HK1.out _ (.cells #[.slice fA m fc] 22) D0)).drew) (fun SN => ?_)
    clear hK
    try simp only [Act.put, List.setIfInBounds_toArray, List.set_cons_zero, List.set_cons_succ]
    refine wpAnyE_all (rs := [6]) (by kernel_rfl) (by simp) ?_
    intro j hj
    obtain rfl := List.mem_singleton.1 hj
    refine wpOp_E rfl (fun K' hK => ?_)
    refine step_app _ rfl (.tmp 18) (.tmp 22) 34 rfl w.heap.size 22 i0 _ 1 24 Tryd.underlying34 hi0 hz0 hz1 hz2 rfl (by omega) (.slice (some ⟨w.heap.size + 1, 0, none⟩) 0 0) 0 [] (by simp [Act.eval, Act.put]) (own_wide (own_empty (w.alloc _) _ 1 _ (by simp)) (by omega)) _ _ (some ad) n cf (F.map RF.v) (by simp [Act.eval, Act.put]) (HF.out _ (HK1.out _ (.cells #[] 22) (HK1.out _ (.cells #[.slice fA m fc] 22) D0)).drew) (rf_one F) (by simp only [maxLen]; omega) (by omega) (by simp; try omega) ?_
    intro v1 w6 o6 g6 a6
    have D6 : Below w.heap.size w w6 := Below.grown (HK1.out _ (.cells #[] 22) (HK1.out _ (.cells #[.slice fA m fc] 22) D0)).drew g6 (by simp; try omega) (fun k hk => by have h' : some (w.heap.size + 1) = some k := hk; injection h' with h'; omega)
    refine hK.out _ _ (fun _ => HX.out _ D6) (fun SN => ?_)
    clear hK
    try simp only [Act.put, List.setIfInBounds_toArray, List.set_cons_zero, List.set_cons_succ]
    refine wpAnyE_all (rs := [15]) (by kernel_rfl) (by simp) ?_
    intro j hj
    obtain rfl := List.mem_singleton.1 hj
    refine wpOp_E rfl (fun K' hK => ?_)
    refine step_app _ rfl (.tmp 23) (.tmp 31) 34 rfl w.heap.size 22 i0 _ 1 24 Tryd.underlying34 hi0 hz0 hz1 hz2 rfl (by omega) v1 (0 + n) ([] ++ F.map RF.v) (by simp [Act.eval, Act.put]) (o6) _ _ (some ⟨w.heap.size, 0, none⟩) 1 1 [.slice fA m fc] (by simp [Act.eval, Act.put]) (Sl.grown (lo := w.heap.size) (hi := w.heap.size + 1) (((sl_one w (.slice fA m fc) 22).alloc (by decide) _).drew) (by decide) g6 (fun k hk => by have h' : some (w.heap.size + 1) = some k := hk; injection h' with h'; omega)) (by intro u hu; rw [List.mem_singleton.1 hu]; rfl) (by simp only [maxLen]; omega) (by omega) (by have := D6.size; simp; try omega) ?_
    intro v2 w7 o7 g7 a7
    have D7 : Below w.heap.size w w7 := Below.grown D6 g7 (by have := D6.size; simp; try omega) (fun k hk => (o6.lt k hk).1)
    refine hK.out _ _ (fun _ => HX.out _ D7) (fun SN => ?_)
    clear hK
    try simp only [Act.put, List.setIfInBounds_toArray, List.set_cons_zero, List.set_cons_succ]
    have z0 := (HX.out w7 D7).1
    have f7 := (HB.out.after D7).frozen 0
    obtain ⟨A7, c7, hv7, -⟩ := own_sl o7
    subst hv7
    refine wpAnyE_all (rs := [16]) (by kernel_rfl) (by simp) ?_
    intro j hj
    obtain rfl := List.mem_singleton.1 hj
    refine wpOp_E rfl (fun K' hK => ?_)
    go_simp
    refine hK.out _ _ (fun _ => HX.out _ D7) (fun SN => ?_)
    clear hK
    try simp only [Act.put, List.setIfInBounds_toArray, List.set_cons_zero, List.set_cons_succ]
    refine wpAnyE_all (rs := [17]) (by kernel_rfl) (by simp) ?_
    intro j hj
    obtain rfl := List.mem_singleton.1 hj
    refine wpOp_E rfl (fun K' hK => ?_)
    go_simp
    refine hK.out _ _ (fun _ => HX.out _ D7) (fun SN => ?_)
    clear hK
    try simp only [Act.put, List.setIfInBounds_toArray, List.set_cons_zero, List.set_cons_succ]
    refine wpAnyE_all (rs := [18]) (by kernel_rfl) (by simp) ?_
    intro j hj
    obtain rfl := List.mem_singleton.1 hj
    refine wpOp_E rfl (fun K' hK => ?_)
    go_simp
    refine hK.out _ _ (fun h => absurd rfl h) (fun _ => ?_)
    clear hK
    try simp only [Act.put, List.setIfInBounds_toArray, List.set_cons_zero, List.set_cons_succ]
    refine wpAnyE_done (by kernel_rfl) ?_ _
    go_wp2
    go_ret
    obtain ⟨S', r1, r2, r3⟩ := HH.out.push (w2 := w7) (f := f) (v := .slice A7 (0 + n + 1) c7) (by rw [HN.out]; have e : f.v = Value.slice fA m fc := HFF.out; rw [e]; simpa using o7) D7 (.inl HFI.out)
    simp only [Nat.zero_add] at r1 r2
    exact ⟨S', rfl, r1, r2, r3⟩
end
end Go.Proofs.YtciolppoanfiaaaDoor
