import Derived.Test.YtciolppoanfiaaaDoorZBagA
/- slices.Delete of one frame. -/
namespace Go.Proofs.YtciolppoanfiaaaDoor
open Go.RowKit Go.ChangeMaps
theorem grown_setCells {a : World} {b : Nat} : ∀ (vs : List Value) (o : Nat) {W : World}, a.grownBy W (some b) → a.grownBy (W.setCells b o vs) (some b)
  | [], _, _, h => h
  | v :: vs, o, _, h => grown_setCells vs (o + 1) (only_setCell h o v)
theorem heap_setCells_at {b : Nat} {t : TypeId} {fr : Nat × Nat} : ∀ (vs : List Value) (o : Nat) (W : World) (cs : Array Value), W.heap[b]? = some (.cells cs t fr) →
    ∃ cs' : Array Value, (W.setCells b o vs).heap[b]? = some (.cells cs' t fr) ∧ cs'.size = cs.size ∧ ∀ j, j < cs.size → cs'[j]? = if o ≤ j ∧ j < o + vs.length then vs[j - o]? else cs[j]?
  | [], o, W, cs, h => ⟨cs, h, rfl, fun j _ => by rw [if_neg (by simp)]⟩
  | v :: vs, o, W, cs, h => by
    have h1 : (W.setCell ⟨b, o, none⟩ v).heap[b]? = some (.cells (cs.setIfInBounds o v) t fr) := by simp [World.setCell, Array.getElem?_modify, h]
    obtain ⟨cs', h2, h3, h4⟩ := heap_setCells_at vs (o + 1) _ _ h1
    refine ⟨cs', h2, by rw [h3]; simp, fun j hj => ?_⟩
    rw [h4 j (by simpa using hj), Array.getElem?_setIfInBounds]
    by_cases hjo : o = j
    · subst hjo
      rw [if_neg (by omega), if_pos rfl, if_pos hj, if_pos (by simp)]
      simp
    · rw [if_neg hjo]
      by_cases h5 : o + 1 ≤ j ∧ j < o + 1 + vs.length
      · rw [if_pos h5, if_pos (by simp; omega)]
        rw [show j - o = (j - (o + 1)) + 1 by omega, List.getElem?_cons_succ]
      · rw [if_neg h5, if_neg (by simp; omega)]
theorem wpList_clear {P : Program} (w : World) {ops : Array Oper} {rest : List Oper} {o : Oper} {a : Act} {Q : Exit → Act → World → Prop} (hgd : o.guard = none) (s : Operand) (t : TypeId)
    (ho : o.op = .call { callee := .builtin .clear, args := #[s], argTypes := #[t] }) (e : TypeId) (z : Value) (ht : P.underlying t = some (.slice e)) (hv : ∀ w, (zeroValue e).run P w = .ok z w) (hz : z.cells = #[z]) (h1 : z.oneCell' = true)
    (b off n c : Nat) (hs : a.eval s = .slice (some ⟨b, off, none⟩) n c) (hn : 0 < n) (hc : ∀ j, j < n → (w.cell? ⟨b, off + j, none⟩).isSome = true) (hf : ∀ j, j < n → w.frozen? ⟨b, off + j, none⟩ = false)
    (h : wpList P ops Q rest (a.put o.dst (.tuple #[])) (w.setCells b off (List.replicate n z))) : wpList P ops Q (o :: rest) a w := by
  refine wpList_plain hgd fun K hK => ?_
  have hrun := Lib.run_clear_slice (P := P) w t e o.type z ht hv hz h1 b off n c hn hc hf
  unfold Oper.wp execOp
  simp only [ho, resolve, invoke, builtin, Sem.run_bind, Sem.run_pure, Result.andThen_ok, List.map_toArray, List.map_cons, List.map_nil, hs, hrun]
  exact hK _ _ h
theorem row_info : (Tryd.prog.info? 22).map (fun i => (i.zero, i.size, i.bytes)) = some (some (.slice none 0 0), 1, 24) := by kernel_rfl
theorem row_zero (w : World) : (zeroValue 22).run Tryd.prog w = .ok (.slice none 0 0) w := by kernel_rfl
theorem addr0 (b j : Nat) : (⟨b, 0, none⟩ : Addr).add j = ⟨b, j, none⟩ := by unfold Addr.add; split <;> simp_all
set_option maxHeartbeats 1600000 in
set_option maxRecDepth 1000000 in
theorem bdelete_any (v : Value) (n i : Nat) (xs : List Value) (w : World) (hown : w.ownsRow 0 22 1 v n xs) (hi : i < n) (hn : n ≤ 1000000) (hone : ∀ u ∈ xs, u.oneCell' = true) :
    Calls Tryd.prog 85 #[v, .int .i64 (i : Int), .int .i64 ((i : Int) + 1)] w fun e w' => ∃ v', e = .returned v' ∧ w'.ownsRow 0 22 1 v' (n - 1) (xs.eraseIdx i) ∧ w.grownBy w' v.ownBlock ∧ v'.ownBlock = v.ownBlock := by
  obtain ⟨i0, hi0, hz0, hz1, hz2⟩ := info_parts row_info
  have hlen : xs.length = n := by have := hown.1; omega
  rcases hown.2 with ⟨rfl, rfl⟩ | ⟨b, cap, cur, rfl, -, hh, hnc, hcm, hcs, htake⟩
  · simp at hlen; omega
  have hcell : ∀ j u, xs[j]? = some u → w.cell? ⟨b, j, none⟩ = some u := fun j u hu => by have := hown.cells (g := b) rfl j u hu; rwa [addr0] at this
  have hfz : ∀ j, w.frozen? ⟨b, j, none⟩ = false := fun j => by simp [World.frozen?, hh]
  have hcm' : cap ≤ 9223372036854775807 := by simpa [maxLen] using hcm
  obtain ⟨mv, hmv⟩ : ∃ m, xs.drop (i + 1) = m := ⟨_, rfl⟩
  have hml : mv.length = n - (i + 1) := by rw [← hmv, List.length_drop, hlen]
  have hmg : ∀ j u, mv[j]? = some u → xs[i + 1 + j]? = some u := fun j u hu => by rw [← hmv, List.getElem?_drop] at hu; exact hu
  obtain ⟨A, hA, hnews⟩ : ∃ A : Addr, (if cap = i + 1 then some (⟨b, 0, none⟩ : Addr) else some ⟨b, i + 1, none⟩) = some A ∧ Hid (∀ j u, mv[j]? = some u → w.drew.cell? (A.add j) = some u) := by
    by_cases h : cap = i + 1
    · refine ⟨⟨b, 0, none⟩, by simp [h], fun j u hu => ?_⟩
      have h0 : mv.length = 0 := by omega
      rw [List.length_eq_zero_iff.1 h0] at hu
      simp at hu
    · refine ⟨⟨b, i + 1, none⟩, by simp [h], fun j u hu => ?_⟩
      rw [Addr.add_lit]
      exact hcell _ _ (hmg j u hu)
  have s1 : Hid (mv.length = (n - (i + 1)) * 1) := by show _ = _; omega
  have s2 : Hid (∀ u ∈ mv, u.oneCell' = true) := fun u hu => hone u (List.mem_of_mem_drop (hmv ▸ hu))
  have s3 : Hid (∀ j, j < mv.length → (w.drew.cell? ⟨b, 0 + i * 1 + j, none⟩).isSome = true ∧ w.drew.frozen? ⟨b, 0 + i * 1 + j, none⟩ = false) := by
    intro j hj
    rw [Nat.mul_one, Nat.zero_add]
    have hx := hcell (i + j) xs[i + j] (List.getElem?_eq_getElem (by omega))
    exact ⟨by show (w.cell? _).isSome = true; rw [hx]; rfl, hfz _⟩
  have FIN : Hid (∀ W, W = (w.drew.setCells b i mv).setCells b (i + (n - (i + 1))) [.slice none 0 0] → W.ownsRow 0 22 1 (.slice (some ⟨b, 0, none⟩) (i + (n - (i + 1))) cap) (n - 1) (xs.eraseIdx i) ∧ w.grownBy W (some b)) := by
    rintro W rfl
    refine ⟨?_, grown_setCells _ _ (grown_setCells _ _ ⟨rfl, rfl, rfl, Nat.le_refl _, fun _ _ _ => rfl⟩)⟩
    obtain ⟨c1, h1, z1, g1⟩ := heap_setCells_at mv i w.drew cur hh
    obtain ⟨c2, h2, z2, g2⟩ := heap_setCells_at [.slice none 0 0] (i + (n - (i + 1))) _ c1 h1
    have hxl : (xs.eraseIdx i).length = n - 1 := by rw [List.length_eraseIdx_of_lt (by omega), hlen]
    have him : i + (n - (i + 1)) = n - 1 := by omega
    have hcsz : n ≤ cur.size := by have := congrArg List.length htake; simp at this; omega
    refine ⟨by omega, .inr ⟨b, cap, c2, by rw [him], Nat.zero_le _, h2, by omega, hcm, by omega, ?_⟩⟩
    apply List.ext_getElem?
    intro j
    rw [List.getElem?_take, List.getElem?_eraseIdx]
    by_cases hj : j < n - 1
    · rw [if_pos (by omega), Array.getElem?_toList, g2 j (by omega), if_neg (by simp only [List.length_cons, List.length_nil]; omega), g1 j (by omega)]
      have hx : ∀ k, k < n → cur[k]? = xs[k]? := fun k hk => by rw [← htake, List.getElem?_take, if_pos (by omega), Array.getElem?_toList]
      by_cases hji : j < i
      · rw [if_neg (by omega), if_pos hji, hx j (by omega)]
      · rw [if_pos (by omega), if_neg hji, ← hmv, List.getElem?_drop, show i + 1 + (j - i) = j + 1 by omega]
    · rw [if_neg (by omega)]
      by_cases hji : j < i
      · omega
      · rw [if_neg hji, List.getElem?_eq_none (by omega)]
  have hcl : Hid (∀ j, j < 1 → ((w.drew.setCells b i mv).cell? ⟨b, i + (n - (i + 1)) + j, none⟩).isSome = true) := by
    intro j hj
    obtain ⟨c1, h1, z1, g1⟩ := heap_setCells_at mv i w.drew cur hh
    have hcsz : n ≤ cur.size := by have := congrArg List.length htake; simp at this; omega
    have : (w.drew.setCells b i mv).cell? ⟨b, i + (n - (i + 1)) + j, none⟩ = c1[i + (n - (i + 1)) + j]? := cell_of_row _ b (i + (n - (i + 1)) + j) c1 22 (0, 0) h1
    rw [this, Array.getElem?_eq_getElem (by omega)]
    rfl
  have hcf : Hid (∀ j, j < 1 → (w.drew.setCells b i mv).frozen? ⟨b, i + (n - (i + 1)) + j, none⟩ = false) := fun j hj => by rw [World.frozen?_setCells]; exact hfz _
  have hic : i ≤ cap := by omega
  have hwr : IntKind.i64.wrap ((i : Int) + 1) = (i : Int) + 1 := by rw [IntKind.wrap_i64]; omega
  have hp0 : (0 : Int) ≤ (i : Int) + 1 := by omega
  have hp1 : (i : Int) + 1 ≤ (n : Int) := by omega
  have hp2 : ((i : Int) + 1).toNat = i + 1 := by omega
  have hne : ((i : Int) == (i : Int) + 1) = false := by simp; omega
  clear hcell hfz hcm hcs htake hh hmv hmg hone hown hlen
  go_enter Tryd.func85, Tryd.ntmps85
  go_wp2_with fail
  go_region_law (refine step_append_room rfl (.tmp 22) (.tmp 25) 34 rfl 22 i0 1 Tryd.underlying34 hi0 hz1 b 0 i cap (by simp [Act.eval, Act.put]) A (n - (i + 1)) (cap - (i + 1)) mv (by simp [Act.eval, Act.put]) s1.out hnews.out s2.out (by omega) s3.out ?_)
  obtain ⟨m, hm⟩ : ∃ m, i + (n - (i + 1)) = m := ⟨_, rfl⟩
  have hmn : n = m + 1 := by omega
  rw [hm] at FIN hcl hcf
  simp only [hm]
  clear hm hA hnews s1 s2 s3 hwr hp0 hp1 hp2 hne
  subst hmn
  have hcm3 : ¬ cap = m := by omega
  go_wp2_with (with_reducible refine wpList_clear _ rfl (.tmp 31) 34 rfl 22 (.slice none 0 0) Tryd.underlying34 row_zero rfl rfl b m 1 (cap - m) rfl (by omega) hcl.out hcf.out ?_)
  go_ret
  exact ⟨_, rfl, (FIN.out _ rfl).1, (FIN.out _ rfl).2, rfl⟩
end Go.Proofs.YtciolppoanfiaaaDoor

/- The bag's take, Cut, Send, Look, Deliver. -/
namespace Go.Proofs.YtciolppoanfiaaaDoor
open Go.RowKit Go.ChangeMaps
theorem fr_one (F : List Fr) : ∀ u ∈ F.map Fr.v, u.oneCell' = true := by
  intro u hu
  obtain ⟨f, _, rfl⟩ := List.mem_map.1 hu
  rfl
section
variable {H : Nat} {w w1 : World} {O : Nat → Prop} {g : Nat} {fs : List (List UInt8)} {ks : List (Int × Int)} {lost : Nat} {v : Value} {F : List Fr}
theorem frs_turn (h : ∀ f ∈ F, w.ownsRow 0 5 1 f.v f.l.length (f.l.map bv)) {r : Option Nat} (hg : w.grownBy w1 r) (hr : ∀ b, r = some b → ∀ cur, w.heap[b]? ≠ some (.cells cur 5 (0, 0))) : ∀ f ∈ F, w1.ownsRow 0 5 1 f.v f.l.length (f.l.map bv) := by
  intro f hf
  have h1 := h f hf
  rcases h1.2 with ⟨e, _⟩ | ⟨b, cap, cur, hv, _, hh, _⟩
  · cases e
  · refine own_chg h1 fun b' hb' => ?_
    have e1 : f.b = b' := by simpa [Fr.v, Value.ownBlock] using hb'
    have e2 : f.b = b := by simp only [Fr.v] at hv; injection hv with h1; injection h1 with h1; injection h1
    exact hg.block b' (by rw [← e1, e2]; exact (Array.getElem?_eq_some_iff.1 hh).1) (fun e => hr b' e.symm cur (by rw [← e1, e2]; exact hh))
theorem blk_not_u8 {t : TypeId} {cs : Array Value} (h : Blk w g t cs) (ht : t ≠ 5) : ∀ b, some g = some b → ∀ cur, w.heap[b]? ≠ some (.cells cur 5 (0, 0)) := by
  intro b e cur
  cases e
  unfold Blk at h
  rw [h]
  intro e
  injection e with e
  injection e with e1 e2
  exact ht e2
theorem row_not_u8 {n : Nat} {xs : List Value} (h : w.ownsRow 0 22 1 v n xs) : ∀ b, v.ownBlock = some b → ∀ cur, w.heap[b]? ≠ some (.cells cur 5 (0, 0)) := by
  intro b e cur
  rcases h.2 with ⟨rfl, _⟩ | ⟨b', cap, cur', rfl, _, hh, _⟩
  · cases e
  · have e' : b' = b := by simpa [Value.ownBlock] using e
    subst e'
    rw [hh]
    intro e
    injection e with e
    injection e with e1 e2
    exact absurd e2 (by decide)
theorem row_types {n : Nat} {xs : List Value} (h : w.ownsRow 0 22 1 v n xs) {b : Nat} (e : v.ownBlock = some b) (cs : Array Value) (fr : Nat × Nat) : w.heap[b]? ≠ some (.cells cs 5 fr) ∧ w.heap[b]? ≠ some (.cells cs 85 fr) := by
  rcases h.2 with ⟨rfl, _⟩ | ⟨b', cap, cur', rfl, _, hh, _⟩
  · cases e
  · have e' : b' = b := by simpa [Value.ownBlock] using e
    subst e'
    rw [hh]
    exact ⟨fun e => by injection e with e; injection e with e1 e2; exact absurd e2 (by decide), fun e => by injection e with e; injection e with e1 e2; exact absurd e2 (by decide)⟩
theorem row_ne_blk {n : Nat} {xs : List Value} {t : TypeId} {cs : Array Value} (h : w.ownsRow 0 22 1 v n xs) (hb : Blk w g t cs) (ht : t ≠ 22) : some g ≠ v.ownBlock := by
  intro e
  rcases h.2 with ⟨rfl, _⟩ | ⟨b', cap, cur', rfl, _, hh, _⟩
  · cases e
  · have e' : g = b' := by simpa [Value.ownBlock] using e
    subst e'
    unfold Blk at hb
    rw [hh] at hb
    injection hb with hb
    injection hb with e1 e2
    exact ht e2.symm
theorem map_ne_row {n mb : Nat} {xs : List Value} (h : w.ownsRow 0 22 1 v n xs) (hm : MapIs w mb ks) : some mb ≠ v.ownBlock := by
  intro e
  obtain ⟨es, c, hb, _⟩ := hm
  rcases h.2 with ⟨rfl, _⟩ | ⟨b', cap, cur', rfl, _, hh, _⟩
  · cases e
  · have e' : mb = b' := by simpa [Value.ownBlock] using e
    subst e'
    rw [hh] at hb
    cases hb
theorem map_ne_blk {mb : Nat} {t : TypeId} {cs : Array Value} (hb : Blk w g t cs) (hm : MapIs w mb ks) : mb ≠ g := by
  rintro rfl
  obtain ⟨es, c, hh, _⟩ := hm
  unfold Blk at hb
  rw [hb] at hh
  cases hh
set_option maxRecDepth 100000 in
set_option maxHeartbeats 1000000 in
theorem btake_any (w : World) (i : Nat) (h : BagAt H w O g fs ks lost) (hi : i < fs.length) (hn : fs.length ≤ 1000) :
    Calls Tryd.prog 68 #[.pointer (some ⟨g, 0, none⟩), .int .i64 (i : Int)] w fun e w' => e = .returned (.tuple #[]) ∧ BagAt H w' O g (fs.eraseIdx i) ks lost ∧ Chg O w w' ∧ KeepT w w' := by
  obtain ⟨hlow, htop, hgO, v, mb, F, hb, hmO, hm, hF, rfl⟩ := h
  obtain ⟨A0, c0, hv0, -⟩ := own_sl hF.row
  subst hv0
  rw [List.length_map] at hi hn
  have hcall := bdelete_any _ F.length i (F.map Fr.v) w hF.row hi (by omega) (fr_one F)
  obtain ⟨x0, x1, x2⟩ := hb.c3
  have hw : IntKind.i64.wrap ((i : Int) + 1) = (i : Int) + 1 := by rw [IntKind.wrap_i64]; omega
  have HC := Lib.hid hcall
  have HF := Lib.hid hF
  clear hcall hF
  go_enter Tryd.func68, Tryd.ntmps68
  go_wp2_with fail
  refine HC.out.mono ?_
  rintro e w1 ⟨v', rfl, hown, hg, hob⟩
  obtain ⟨A', c', hv', -⟩ := own_sl hown
  subst hv'
  have hF := HF.out
  have hb1 := hb.grown hg (row_ne_blk hF.row hb (by decide))
  have f0 := hb1.frozen 0
  obtain ⟨y0, y1, y2⟩ := hb1.c3
  go_wp2
  go_end0
  have hset := only_setCell (World.grownBy.refl w1 (some g)) 0 (.slice A' (F.length - 1) c')
  have hf1 := frs_turn (frs_turn hF.fr hg (row_not_u8 hF.row)) hset (blk_not_u8 hb1 (by decide))
  have hsz := hg.size
  have hmr := map_ne_row hF.row hm
  have hrow := own_far hown (g := g) (fun e => row_ne_blk hF.row hb (by decide) (by rw [← hob, e])) 0 (.slice A' (F.length - 1) c')
  have hmb : (w1.setCell ⟨g, 0, none⟩ (.slice A' (F.length - 1) c')).heap[mb]? = w.heap[mb]? := (hset.block mb (Nat.lt_of_lt_of_le hm.lt hsz) (fun e => map_ne_blk hb hm (by injection e))).trans (hg.block mb hm.lt hmr)
  have hel : (F.eraseIdx i).length = F.length - 1 := List.length_eraseIdx_of_lt hi
  refine ⟨rfl, ⟨hlow, fun k hk => ?_, hgO, .slice A' (F.length - 1) c', mb, F.eraseIdx i, by simpa using hb1.set_ 0 (.slice A' (F.length - 1) c'), hmO, hm.keep hmb, ⟨?_, fun b hb' => hF.rowO b (hob ▸ hb'), fun f hf => hf1 f (List.mem_of_mem_eraseIdx hf), fun f hf => hF.frO f (List.mem_of_mem_eraseIdx hf), ?_⟩, by rw [map_eraseIdx]⟩, ?_, ?_⟩
  · rw [size_setCell']
    exact Nat.lt_of_lt_of_le (htop k hk) hsz
  · rw [hel, map_eraseIdx]
    exact hrow
  · rw [map_eraseIdx]
    exact hF.nd.eraseIdx i
  · exact (Chg.grown hg (fun b e => .inl (hF.rowO b e))).same (Chg.grown hset (fun b e => by cases e; exact .inl hgO))
  · exact (KeepT.grown hg (fun b e cs fr => row_types hF.row e cs fr)).trans (KeepT.blk hb1 (by decide) (by decide) hset)
end
end Go.Proofs.YtciolppoanfiaaaDoor

/- The bag's Cut, Send, Look, Deliver. -/
namespace Go.Proofs.YtciolppoanfiaaaDoor
open Go.RowKit Go.ChangeMaps
def cutK (ks : List (Int × Int)) (k : Int × Int) (cut : Bool) : List (Int × Int) := if cut then (if k ∈ ks then ks else ks ++ [k]) else ks.erase k
section
variable {H : Nat} {w w1 : World} {O : Nat → Prop} {g : Nat} {fs : List (List UInt8)} {ks : List (Int × Int)} {lost : Nat} {v : Value} {F : List Fr}
/-- what an update of the map gives -/
theorem BagAt.mapped (h : BagAt H w O g fs ks lost) {v : Value} {mb : Nat} (hb : Blk w g 96 #[v, .map (some mb), .int .i64 (lost : Int)]) {W : World} (hW : Below w.heap.size w W) {o : Obj} {ks' : List (Int × Int)} (hm : MapIs (setBlock W mb o) mb ks') :
    BagAt H (setBlock W mb o) O g fs ks' lost ∧ Chg O w (setBlock W mb o) := by
  obtain ⟨hlow, htop, hgO, v₂, mb₂, F, hb₂, hmO, hm₂, hF, hfs⟩ := h
  unfold Blk at hb hb₂
  have e : (#[v, .map (some mb), .int .i64 (lost : Int)] : Array Value) = #[v₂, .map (some mb₂), .int .i64 (lost : Int)] := by
    rw [hb] at hb₂
    injection hb₂ with h1
    injection h1
  have e1 : v = v₂ := by have := congrArg (fun a => a[0]!) e; simpa using this
  have e2 : mb = mb₂ := by have := congrArg (fun a => a[1]!) e; simpa using this
  subst e1 e2
  have hg := setBlock_grown W mb o
  have hk : ∀ k, k < w.heap.size → k ≠ mb → (setBlock W mb o).heap[k]? = w.heap[k]? := fun k hk hne => (hg.block k (Nat.lt_of_lt_of_le hk hW.size) (fun e => hne (by injection e))).trans (hW.block k hk)
  have hsz : w.heap.size ≤ (setBlock W mb o).heap.size := Nat.le_trans hW.size hg.size
  have hgm := map_ne_blk (ks := ks) hb hm₂
  have hrm := map_ne_row hF.row hm₂
  refine ⟨⟨hlow, fun k hk => Nat.lt_of_lt_of_le (htop k hk) hsz, hgO, v, mb, F, (hk g (htop g hgO) (fun e => hgm e.symm)).trans hb, hmO, hm, ⟨?_, hF.rowO, ?_, hF.frO, hF.nd⟩, hfs⟩, ?_⟩
  · exact own_chg hF.row fun b hb' => hk b (htop b (hF.rowO b hb')) (fun e => hrm (by rw [hb', e]))
  · obtain ⟨es, c, hmm, _⟩ := hm₂
    refine frs_turn (frs_turn hF.fr (only_of_below hW none) (fun b e => by cases e)) hg (fun b e cur => ?_)
    cases e
    rw [hW.block mb (htop mb hmO), hmm]
    intro e
    cases e
  · exact (Chg.below hW).same (Chg.grown hg (fun b e => by cases e; exact .inl hmO))
set_option maxRecDepth 100000 in
set_option maxHeartbeats 1000000 in
theorem bcut_any (x y : Int) (hx : -9223372036854775808 ≤ x ∧ x ≤ 9223372036854775807) (hy : -9223372036854775808 ≤ y ∧ y ≤ 9223372036854775807) (w : World) (h : BagAt H w O g fs ks lost) :
    Calls Tryd.prog 34 #[.pointer (some ⟨g, 0, none⟩), .int .i64 x, .int .i64 y, .bool true] w fun e w' => e = .returned (.tuple #[]) ∧ BagAt H w' O g fs (cutK ks (pk x y) true) lost ∧ Chg O w w' := by
  have h0 := h
  obtain ⟨hlow, htop, hgO, v, mb, F, hb, hmO, hm, hF, hfs⟩ := h
  obtain ⟨o, hput⟩ := map_put hm (pk_ik hx hy)
  obtain ⟨x0, x1, x2⟩ := hb.c3
  have hlt := hm.lt
  have hgm := map_ne_blk hb hm
  have XA : Hid (∀ W, Below w.heap.size w W → W.cell? ⟨g, 1, none⟩ = some (.map (some mb)) ∧ ∀ o, (setBlock W mb o).cell? ⟨g, 1, none⟩ = some (.map (some mb))) := fun W hW =>
    ⟨(hb.after hW).cell 1, fun o => ((hb.after hW).grown (setBlock_grown W mb o) (fun e => hgm (by injection e with e; exact e.symm))).cell 1⟩
  have hrun := (hput (w.alloc (.cells #[.int .i64 (min x y), .int .i64 (max x y)] 97)).drew (Below.heap_alloc _ _ _ hlt)).1
  have HB : Hid (Below w.heap.size w (w.alloc (.cells #[.int .i64 (min x y), .int .i64 (max x y)] 97)).drew) := ((Below.refl w.heap.size w).alloc (Nat.le_refl _) _).drew
  have FIN : Hid (∀ W, Below w.heap.size w W → BagAt H (setBlock W mb o) O g fs (cutK ks (pk x y) true) lost ∧ Chg O w (setBlock W mb o)) := fun W hW => h0.mapped hb hW (hput W (hW.block mb hlt)).2
  clear hput hF hfs hb h0 hm hgm
  go_enter Tryd.func34, Tryd.ntmps34
  go_wp2_with fail
  go_region_held3 (fun W' => W'.cell? ⟨g, 1, none⟩ = some (.map (some mb))) (first | exact x1 | exact (XA.out _ HB.out).1 | exact (XA.out _ HB.out).2 _ | go_keep) (first | (go_at_call 65; refine (pair_any x y _).mono ?_; rintro e w' ⟨rfl, rfl⟩))
  go_wp2
  go_end0
  exact ⟨rfl, FIN.out _ HB.out⟩
theorem step_del {P : Program} {ops : Array Oper} {o : Oper} {a : Act} {w : World} {K : Act → World → Prop} {Q : Exit → Act → World → Prop} {E : Prop} (hgd : o.guard = none) (s x : Operand) (t k : TypeId)
    (ho : o.op = .call { callee := .builtin .delete, args := #[s, x], argTypes := #[t, k] }) (m key : Value) (hs : a.eval s = m) (hx : a.eval x = key) (w2 : World) (hrun : (Builtin.delete_ #[t, k] o.type #[m, key]).run P w = .ok (.tuple #[]) w2)
    (h : K (a.put o.dst (.tuple #[])) w2) : if Region.wanted o (yielded ops a.tmps) = true then Oper.wp P o a w K Q else E := by
  have hw : Region.wanted o (yielded ops a.tmps) = true := by simp [Region.wanted, hgd]
  rw [if_pos hw]
  unfold Oper.wp execOp
  simp only [ho, resolve, invoke, builtin, Sem.run_bind, Sem.run_pure, Result.andThen_ok, List.map_toArray, List.map_cons, List.map_nil, hs, hx, hrun]
  exact h
set_option maxRecDepth 100000 in
set_option maxHeartbeats 1000000 in
theorem bjoin_any (x y : Int) (hx : -9223372036854775808 ≤ x ∧ x ≤ 9223372036854775807) (hy : -9223372036854775808 ≤ y ∧ y ≤ 9223372036854775807) (w : World) (h : BagAt H w O g fs ks lost) :
    Calls Tryd.prog 34 #[.pointer (some ⟨g, 0, none⟩), .int .i64 x, .int .i64 y, .bool false] w fun e w' => e = .returned (.tuple #[]) ∧ BagAt H w' O g fs (cutK ks (pk x y) false) lost ∧ Chg O w w' := by
  have h0 := h
  obtain ⟨hlow, htop, hgO, v, mb, F, hb, hmO, hm, hF, hfs⟩ := h
  obtain ⟨o, hput⟩ := map_del hm (pk_ik hx hy) 0
  obtain ⟨x0, x1, x2⟩ := hb.c3
  have hlt := hm.lt
  have hgm := map_ne_blk hb hm
  have XA : Hid (∀ W, Below w.heap.size w W → W.cell? ⟨g, 1, none⟩ = some (.map (some mb)) ∧ ∀ o, (setBlock W mb o).cell? ⟨g, 1, none⟩ = some (.map (some mb))) := fun W hW =>
    ⟨(hb.after hW).cell 1, fun o => ((hb.after hW).grown (setBlock_grown W mb o) (fun e => hgm (by injection e with e; exact e.symm))).cell 1⟩
  have hrun := (hput (w.alloc (.cells #[.int .i64 (min x y), .int .i64 (max x y)] 97)).drew (Below.heap_alloc _ _ _ hlt)).1
  have HR := Lib.hid hrun
  have HB : Hid (Below w.heap.size w (w.alloc (.cells #[.int .i64 (min x y), .int .i64 (max x y)] 97)).drew) := ((Below.refl w.heap.size w).alloc (Nat.le_refl _) _).drew
  have FIN : Hid (∀ W, Below w.heap.size w W → BagAt H (setBlock W mb o) O g fs (cutK ks (pk x y) false) lost ∧ Chg O w (setBlock W mb o)) := fun W hW => h0.mapped hb hW (hput W (hW.block mb hlt)).2
  clear hput hF hfs hb h0 hm hgm hrun
  go_enter Tryd.func34, Tryd.ntmps34
  go_wp2_with fail
  go_region_held3 (fun W' => W'.cell? ⟨g, 1, none⟩ = some (.map (some mb))) (first | exact x1 | exact (XA.out _ HB.out).1 | exact (XA.out _ HB.out).2 _ | go_keep) (first | (go_at_call 65; refine (pair_any x y _).mono ?_; rintro e w' ⟨rfl, rfl⟩) | (refine step_del rfl (.tmp 19) (.tmp 22) _ _ rfl _ _ (by simp [Act.eval, Act.put]) (by simp [Act.eval, Act.put]) _ HR.out ?_))
  go_wp2
  go_end0
  exact ⟨rfl, FIN.out _ HB.out⟩
end
end Go.Proofs.YtciolppoanfiaaaDoor

/- The bag's Send. -/
namespace Go.Proofs.YtciolppoanfiaaaDoor
open Go.RowKit Go.ChangeMaps
theorem own_fr {w : World} {base : Nat} {A : Option Addr} {c : Nat} {l : List UInt8} (h : w.ownsRow base 5 1 (.slice A l.length c) l.length (l.map bv)) (hl : 0 < l.length) :
    ∃ f : Fr, f.l = l ∧ f.c = c ∧ Value.slice A l.length c = f.v ∧ base ≤ f.b ∧ f.b < w.heap.size ∧ w.ownsRow 0 5 1 f.v f.l.length (f.l.map bv) := by
  rcases h.2 with ⟨e, _⟩ | ⟨b, cap, cur, hv, hb, hh, _⟩
  · injection e with e1 e2 e3; omega
  · injection hv with e1 e2 e3
    subst e1 e3
    exact ⟨⟨b, c, l⟩, rfl, rfl, rfl, hb, (Array.getElem?_eq_some_iff.1 hh).1, own_wide h (Nat.zero_le _)⟩
section
variable {H : Nat} {w w1 : World} {O : Nat → Prop} {g : Nat} {fs : List (List UInt8)} {ks : List (Int × Int)} {lost : Nat} {v : Value} {F : List Fr}
/-- the count of what was lost turns -/
theorem BagAt.lose (h : BagAt H w O g fs ks lost) (n : Nat) : BagAt H (w.setCell ⟨g, 2, none⟩ (.int .i64 (n : Int))) O g fs ks n ∧ Chg O w (w.setCell ⟨g, 2, none⟩ (.int .i64 (n : Int))) ∧ KeepT w (w.setCell ⟨g, 2, none⟩ (.int .i64 (n : Int))) := by
  obtain ⟨hlow, htop, hgO, v, mb, F, hb, hmO, hm, hF, hfs⟩ := h
  have hset := only_setCell (World.grownBy.refl w (some g)) 2 (.int .i64 (n : Int))
  refine ⟨⟨hlow, fun k hk => by rw [size_setCell']; exact htop k hk, hgO, v, mb, F, by simpa using hb.set_ 2 (.int .i64 (n : Int)), hmO, hm.keep (hset.block mb hm.lt (fun e => map_ne_blk hb hm (by injection e))), ⟨?_, hF.rowO, frs_turn hF.fr hset (blk_not_u8 hb (by decide)), hF.frO, hF.nd⟩, hfs⟩, Chg.grown hset (fun b e => by cases e; exact .inl hgO), KeepT.blk hb (by decide) (by decide) hset⟩
  exact own_far hF.row (g := g) (fun e => row_ne_blk hF.row hb (by decide) e.symm) 2 _
/-- a frame is laid behind the others -/
theorem BagAt.push (h : BagAt H w O g fs ks lost) {mb : Nat} (hb : Blk w g 96 #[v, .map (some mb), .int .i64 (lost : Int)]) (hF : BagF w O v F) (hm : MapIs w mb ks) (hmO : O mb) (hfs : F.map Fr.l = fs)
    {W : World} (hW : Below w.heap.size w W) (f : Fr) (hf : W.ownsRow 0 5 1 f.v f.l.length (f.l.map bv)) (hfb : w.heap.size ≤ f.b) (hfW : f.b < W.heap.size)
    {v2 : Value} {w2 : World} (hown2 : w2.ownsRow 0 22 1 v2 (F.length + 1) (F.map Fr.v ++ [f.v])) (hg2 : W.grownBy w2 v.ownBlock) (hat : v2.ownBlock = v.ownBlock ∨ v2.ownBlock = some W.heap.size) {H2 : Nat} (hH2 : H ≤ w.heap.size) (hz : H2 = W.heap.size) :
    ∃ O', BagAt H (w2.setCell ⟨g, 0, none⟩ v2) O' g (fs ++ [f.l]) ks lost ∧ Chg O w (w2.setCell ⟨g, 0, none⟩ v2) ∧ Sub O w O' := by
  subst hz
  have hbW := hb.after hW
  have hb2 := hbW.grown hg2 (row_ne_blk hF.row hb (by decide))
  have hset := only_setCell (World.grownBy.refl w2 (some g)) 0 v2
  have hs1 := hW.size
  have hs2 := hg2.size
  have hrowW : W.ownsRow 0 22 1 v F.length (F.map Fr.v) := own_chg hF.row fun b hb' => hW.block b (h.top b (hF.rowO b hb'))
  have hfr : ∀ x ∈ F ++ [f], (w2.setCell ⟨g, 0, none⟩ v2).ownsRow 0 5 1 x.v x.l.length (x.l.map bv) := by
    refine frs_turn (frs_turn (w := W) ?_ hg2 (row_not_u8 hrowW)) hset (blk_not_u8 hb2 (by decide))
    intro x hx
    rcases List.mem_append.1 hx with hx | hx
    · exact frs_turn hF.fr (only_of_below hW none) (fun b e => by cases e) x hx
    · rw [List.mem_singleton.1 hx]; exact hf
  have hgl : g < w.heap.size := h.top g h.gO
  have hvg : v2.ownBlock ≠ some g := by
    rcases hat with e | e
    · rw [e]; exact fun e' => row_ne_blk hF.row hb (by decide) e'.symm
    · rw [e]; intro e'; injection e' with e'; omega
  have hv2lt : ∀ b, v2.ownBlock = some b → b < w2.heap.size := fun b hb' => (hown2.lt b hb').2
  have hml := hm.lt
  refine ⟨fun k => O k ∨ k = f.b ∨ v2.ownBlock = some k, ⟨?_, ?_, .inl h.gO, v2, mb, F ++ [f], by simpa using hb2.set_ 0 v2, .inl hmO, ?_, ⟨?_, fun b e => .inr (.inr e), hfr, ?_, ?_⟩, by rw [List.map_append, hfs]; rfl⟩, ?_, ?_⟩
  · intro k hk
    rcases hk with hk | rfl | hk
    · exact h.low k hk
    · omega
    · rcases hat with e | e
      · exact h.low k (hF.rowO k (e ▸ hk))
      · rw [e] at hk; injection hk with hk; omega
  · intro k hk
    rw [size_setCell']
    rcases hk with hk | rfl | hk
    · have := h.top k hk; omega
    · omega
    · exact hv2lt k hk
  · exact hm.keep ((hset.block mb (by omega) (fun e => map_ne_blk hb hm (by injection e))).trans ((hg2.block mb (by omega) (map_ne_row hF.row hm)).trans (hW.block mb hml)))
  · have := own_far hown2 (g := g) hvg 0 v2
    simpa using this
  · intro x hx
    rcases List.mem_append.1 hx with hx | hx
    · exact .inl (hF.frO x hx)
    · rw [List.mem_singleton.1 hx]; exact .inr (.inl rfl)
  · rw [List.map_append]
    exact List.nodup_append.2 ⟨hF.nd, by simp, fun a ha b hb' => by
      obtain ⟨x, hx, rfl⟩ := List.mem_map.1 ha
      have h1 := h.top _ (hF.frO x hx)
      rw [List.map_singleton, List.mem_singleton] at hb'
      omega⟩
  · exact ((Chg.below hW).same (Chg.grown hg2 (fun b e => .inl (hF.rowO b e)))).same (Chg.grown hset (fun b e => by cases e; exact .inl h.gO))
  · intro k hk
    rcases hk with hk | rfl | hk
    · exact .inl hk
    · exact .inr hfb
    · rcases hat with e | e
      · exact .inl (hF.rowO k (e ▸ hk))
      · rw [e] at hk; injection hk with hk; exact .inr (by omega)
end
end Go.Proofs.YtciolppoanfiaaaDoor

/- The bag's Send. -/
namespace Go.Proofs.YtciolppoanfiaaaDoor
open Go.RowKit Go.ChangeMaps
section
variable {H : Nat} {w : World} {O : Nat → Prop} {g : Nat} {fs : List (List UInt8)} {ks : List (Int × Int)} {lost : Nat}
set_option maxRecDepth 100000 in
set_option maxHeartbeats 1000000 in
theorem bsend_bad (m : Msg) (w : World) (hm : IsMsg w m) (h : BagAt H w O g fs ks lost) (hT : Tab w) (hH : 0 < H) (hHw : H ≤ w.heap.size) {E : Nat} (hE : m.plain.pkE = E) (h0 : E ≠ 0) :
    Calls Tryd.prog 35 #[.pointer (some ⟨g, 0, none⟩), m.v] w fun e w' => e = .returned (.int .i64 (E : Int)) ∧ BagAt H w' O g fs ks lost ∧ Chg O w w' := by
  obtain ⟨L, hL⟩ : ∃ L, m.plain.pkL = L := ⟨_, rfl⟩
  obtain ⟨M, hM⟩ : ∃ M : Msg, M = m := ⟨_, rfl⟩
  have hp : ∀ W, IsMsg W M → Tab W → 0 < W.heap.size → Calls Tryd.prog 26 #[M.v] W fun e w' => ∃ A n, e = .returned (.tuple #[.slice A L.length n, .int .i64 (E : Int)]) ∧ w'.ownsRow W.heap.size 5 1 (.slice A L.length n) L.length (L.map bv) ∧ Below W.heap.size W w' := fun W h1 h2 h3 => pack_any M W h1 h2 h3 (by rw [hM]; exact hE) (by rw [hM]; exact hL)
  rw [← hM] at hm
  have hTA := fun o => hT.below ((Below.refl w.heap.size w).alloc (Nat.le_refl _) o) (Nat.lt_of_lt_of_le hH hHw)
  have HTA := Lib.hid hTA
  clear hTA
  obtain ⟨k, f, t, te, ix, pr, co, ok, dA, dc, d, eA, ec, es⟩ := m
  simp only [Msg.v, mcells]
  have vM : M.v = .agg #[.int .i64 k, .int .i64 f, .int .i64 t, .int .u64 (te : Int), .int .u64 (ix : Int), .int .u64 (pr : Int), .int .u64 (co : Int), .bool ok, .slice dA d.length dc, .slice eA es.length ec] := by rw [hM]; rfl
  rw [vM] at hp
  clear hM vM hE
  generalize d.length = dn at hp ⊢
  generalize es.length = en at hp ⊢
  have HP := Lib.hid hp
  have ht0 : 0 < (w.alloc (.cells #[.int .i64 k, .int .i64 f, .int .i64 t, .int .u64 (te : Int), .int .u64 (ix : Int), .int .u64 (pr : Int), .int .u64 (co : Int), .bool ok, .slice dA dn dc, .slice eA en ec] 41)).heap.size := Nat.lt_of_lt_of_le (Nat.lt_of_lt_of_le hH hHw) (by simp)
  have HT0 := Lib.hid ht0
  clear hp ht0 hT
  have n1 : ((E : Int) != 0) = true := bne_iff_ne.2 (by omega)
  have HB : Hid (∀ W, Below w.heap.size w W → BagAt H W O g fs ks lost ∧ Chg O w W) := fun W hW => ⟨h.after hW, Chg.below hW⟩
  clear h
  go_enter Tryd.func35, Tryd.ntmps35
  go_wp2_with fail
  refine (HP.out _ (hm.alloc _) (HTA.out _) HT0.out).mono ?_
  rintro e w1 ⟨A1, c1, rfl, o1, b1⟩
  have D1 := below_boxed b1
  clear b1 HP HTA HT0
  clear o1
  generalize L.length = ll
  go_wp2
  go_ret
  exact ⟨rfl, HB.out _ D1⟩
set_option maxRecDepth 100000 in
set_option maxHeartbeats 1000000 in
theorem bsend_full (m : Msg) (w : World) (hm : IsMsg w m) (h : BagAt H w O g fs ks lost) (hT : Tab w) (hH : 0 < H) (hHw : H ≤ w.heap.size) {E : Nat} (hE : m.plain.pkE = E) (h0 : E = 0) (h60 : 60 ≤ fs.length) (hl : lost < 1000000) :
    Calls Tryd.prog 35 #[.pointer (some ⟨g, 0, none⟩), m.v] w fun e w' => e = .returned (.int .i64 42) ∧ BagAt H w' O g fs ks (lost + 1) ∧ Chg O w w' := by
  obtain ⟨L, hL⟩ : ∃ L, m.plain.pkL = L := ⟨_, rfl⟩
  obtain ⟨M, hM⟩ : ∃ M : Msg, M = m := ⟨_, rfl⟩
  have hp : ∀ W, IsMsg W M → Tab W → 0 < W.heap.size → Calls Tryd.prog 26 #[M.v] W fun e w' => ∃ A n, e = .returned (.tuple #[.slice A L.length n, .int .i64 (E : Int)]) ∧ w'.ownsRow W.heap.size 5 1 (.slice A L.length n) L.length (L.map bv) ∧ Below W.heap.size W w' := fun W h1 h2 h3 => pack_any M W h1 h2 h3 (by rw [hM]; exact hE) (by rw [hM]; exact hL)
  rw [← hM] at hm
  have hTA := fun o => hT.below ((Below.refl w.heap.size w).alloc (Nat.le_refl _) o) (Nat.lt_of_lt_of_le hH hHw)
  have HTA := Lib.hid hTA
  clear hTA
  obtain ⟨k, f, t, te, ix, pr, co, ok, dA, dc, d, eA, ec, es⟩ := m
  simp only [Msg.v, mcells]
  have vM : M.v = .agg #[.int .i64 k, .int .i64 f, .int .i64 t, .int .u64 (te : Int), .int .u64 (ix : Int), .int .u64 (pr : Int), .int .u64 (co : Int), .bool ok, .slice dA d.length dc, .slice eA es.length ec] := by rw [hM]; rfl
  rw [vM] at hp
  clear hM vM hE
  generalize d.length = dn at hp ⊢
  generalize es.length = en at hp ⊢
  have HP := Lib.hid hp
  have ht0 : 0 < (w.alloc (.cells #[.int .i64 k, .int .i64 f, .int .i64 t, .int .u64 (te : Int), .int .u64 (ix : Int), .int .u64 (pr : Int), .int .u64 (co : Int), .bool ok, .slice dA dn dc, .slice eA en ec] 41)).heap.size := Nat.lt_of_lt_of_le (Nat.lt_of_lt_of_le hH hHw) (by simp)
  have HT0 := Lib.hid ht0
  clear hp ht0 hT
  subst h0
  have n1 : (((0 : Nat) : Int) != 0) = false := by simp
  have hd : decide (60 ≤ fs.length) = true := decide_eq_true h60
  have HB : Hid (∀ W, Below w.heap.size w W → BagAt H (W.setCell ⟨g, 2, none⟩ (.int .i64 ((lost + 1 : Nat) : Int))) O g fs ks (lost + 1) ∧ Chg O w (W.setCell ⟨g, 2, none⟩ (.int .i64 ((lost + 1 : Nat) : Int)))) := fun W hW =>
    ⟨((h.after hW).lose (lost + 1)).1, (Chg.below hW).same ((h.after hW).lose (lost + 1)).2.1⟩
  have HH := Lib.hid h
  have HD := Lib.hid hd
  clear h hd h60
  go_enter Tryd.func35, Tryd.ntmps35
  go_wp2_with fail
  refine (HP.out _ (hm.alloc _) (HTA.out _) HT0.out).mono ?_
  rintro e w1 ⟨A1, c1, rfl, o1, b1⟩
  have D1 := below_boxed b1
  clear b1 HP HTA HT0
  clear o1
  generalize L.length = ll
  go_wp2_with fail
  refine (bfull_any _ (HH.out.after D1) HD.out).mono ?_
  rintro e _ ⟨rfl, rfl⟩
  have h1 := HH.out.after D1
  obtain ⟨-, -, -, v, mb, F, hb, -, -, -, -⟩ := h1
  obtain ⟨x0, x1, x2⟩ := hb.c3
  have f2 := hb.frozen 2
  clear hb HH
  go_wp2
  go_ret
  exact ⟨rfl, HB.out _ D1⟩
set_option maxRecDepth 100000 in
set_option maxHeartbeats 1000000 in
theorem bsend_ok (m : Msg) (w : World) (hm : IsMsg w m) (h : BagAt H w O g fs ks lost) (hT : Tab w) (hH : 0 < H) (hHw : H ≤ w.heap.size) {E : Nat} (hE : m.plain.pkE = E) (h0 : E = 0) (h60 : fs.length < 60) :
    Calls Tryd.prog 35 #[.pointer (some ⟨g, 0, none⟩), m.v] w fun e w' => ∃ O', e = .returned (.int .i64 0) ∧ BagAt H w' O' g (fs ++ [m.plain.pkL]) ks lost ∧ Chg O w w' ∧ Sub O w O' := by
  obtain ⟨L, hL⟩ : ∃ L, m.plain.pkL = L := ⟨_, rfl⟩
  obtain ⟨M, hM⟩ : ∃ M : Msg, M = m := ⟨_, rfl⟩
  have hp : ∀ W, IsMsg W M → Tab W → 0 < W.heap.size → Calls Tryd.prog 26 #[M.v] W fun e w' => ∃ A n, e = .returned (.tuple #[.slice A L.length n, .int .i64 (E : Int)]) ∧ w'.ownsRow W.heap.size 5 1 (.slice A L.length n) L.length (L.map bv) ∧ Below W.heap.size W w' := fun W h1 h2 h3 => pack_any M W h1 h2 h3 (by rw [hM]; exact hE) (by rw [hM]; exact hL)
  rw [← hM] at hm
  have hTA := fun o => hT.below ((Below.refl w.heap.size w).alloc (Nat.le_refl _) o) (Nat.lt_of_lt_of_le hH hHw)
  have HTA := Lib.hid hTA
  clear hTA
  obtain ⟨k, f, t, te, ix, pr, co, ok, dA, dc, d, eA, ec, es⟩ := m
  simp only [Msg.v, mcells]
  have vM : M.v = .agg #[.int .i64 k, .int .i64 f, .int .i64 t, .int .u64 (te : Int), .int .u64 (ix : Int), .int .u64 (pr : Int), .int .u64 (co : Int), .bool ok, .slice dA d.length dc, .slice eA es.length ec] := by rw [hM]; rfl
  rw [vM] at hp
  clear hM vM
  generalize d.length = dn at hp ⊢
  generalize es.length = en at hp ⊢
  have HP := Lib.hid hp
  have ht0 : 0 < (w.alloc (.cells #[.int .i64 k, .int .i64 f, .int .i64 t, .int .u64 (te : Int), .int .u64 (ix : Int), .int .u64 (pr : Int), .int .u64 (co : Int), .bool ok, .slice dA dn dc, .slice eA en ec] 41)).heap.size := Nat.lt_of_lt_of_le (Nat.lt_of_lt_of_le hH hHw) (by simp)
  have HT0 := Lib.hid ht0
  clear hp ht0 hT
  subst h0
  have n1 : (((0 : Nat) : Int) != 0) = false := by simp
  have hd : decide (60 ≤ fs.length) = false := decide_eq_false (by omega)
  have hLn : 0 < L.length := by
    rw [← hL]
    unfold PMsg.pkL
    rw [if_pos hE, frameOf_len]
    omega
  have HH := Lib.hid h
  have HD := Lib.hid hd
  obtain ⟨i0, hi0, hz0, hz1, hz2⟩ := info_parts row_info
  clear h hd
  have HE := Lib.hid hE
  have HL := Lib.hid hL
  clear hE hL
  go_enter Tryd.func35, Tryd.ntmps35
  go_wp2_with fail
  refine (HP.out _ (hm.alloc _) (HTA.out _) HT0.out).mono ?_
  rintro e w1 ⟨A1, c1, rfl, o1, b1⟩
  have D1 := below_boxed b1
  clear b1 HP HTA HT0
  obtain ⟨fr, hfl, hfc, hfv, hfb, hfW, hfo⟩ := own_fr o1 hLn
  have HFL := Lib.hid hfl
  clear hfl hfc
  generalize L.length = ll at hfv ⊢
  have hfv' : Value.slice A1 ll c1 = .slice (some ⟨fr.b, 0, none⟩) fr.l.length fr.c := hfv
  injection hfv' with hA1 hl1 hc1
  subst hA1 hl1 hc1
  clear hfv
  go_wp2_with fail
  refine (bfull_any _ (HH.out.after D1) HD.out).mono ?_
  rintro e _ ⟨rfl, rfl⟩
  have h1 := HH.out
  obtain ⟨-, -, -, v, mb, F, hb, hmO, hm, hF, hfs⟩ := h1
  have hn60 : F.length < 60 := by rw [← hfs, List.length_map] at h60; exact h60
  obtain ⟨A0, c0, hv0, -⟩ := own_sl hF.row
  subst hv0
  have hrow1 : w1.ownsRow 0 22 1 (.slice A0 F.length c0) F.length (F.map Fr.v) := own_chg hF.row fun b hb' => D1.block b (HH.out.top b (hF.rowO b hb'))
  have hb1 := hb.after D1
  obtain ⟨x0, x1, x2⟩ := hb1.c3
  have FIN : Hid (∀ (v2 : Value) (w2 : World), w2.ownsRow 0 22 1 v2 (F.length + 1) (F.map Fr.v ++ [fr.v]) → (w1.alloc (.cells #[.slice (some ⟨fr.b, 0, none⟩) fr.l.length fr.c] 22)).grownBy w2 (Value.slice A0 F.length c0).ownBlock → (v2.ownBlock = (Value.slice A0 F.length c0).ownBlock ∨ v2.ownBlock = some (w1.alloc (.cells #[.slice (some ⟨fr.b, 0, none⟩) fr.l.length fr.c] 22)).heap.size) →
      ∃ O', BagAt H (w2.setCell ⟨g, 0, none⟩ v2) O' g (fs ++ [fr.l]) ks lost ∧ Chg O w (w2.setCell ⟨g, 0, none⟩ v2) ∧ Sub O w O') := fun v2 w2 a1 a2 a3 =>
    HH.out.push hb hF hm hmO hfs (D1.alloc D1.size _) fr (hfo.alloc _) (by simp at hfb; omega) (by simp; omega) a1 a2 a3 hHw rfl
  have HBL := Lib.hid (row_ne_blk hF.row hb (by decide))
  clear hb hF hm hmO HH HD o1 hfo
  generalize F.length = n at hrow1 x0 hn60 FIN HBL ⊢
  go_wp2_with (at_builtin; refine wpList_app _ rfl (.tmp 30) (.tmp 32) 34 rfl 0 22 i0 _ 1 24 Tryd.underlying34 hi0 hz0 hz1 hz2 rfl (by omega) (.slice A0 n c0) n (F.map Fr.v) rfl (hrow1.alloc _) w1.heap.size (w1.heap.size + 1) (some ⟨w1.heap.size, 0, none⟩) 1 1 [.slice (some ⟨fr.b, 0, none⟩) fr.l.length fr.c] rfl (sl_one _ _ _) (by intro u hu; rw [List.mem_singleton.1 hu]; rfl) (by simp only [maxLen]; omega) (by omega) (Nat.zero_le _) ?_; intro v2 w2 hown2 hg2 hat2; obtain ⟨A2, c2, hv2, -⟩ := own_sl hown2; subst hv2; have hb2 := (hb1.alloc (.cells #[.slice (some ⟨fr.b, 0, none⟩) fr.l.length fr.c] 22)).grown hg2 HBL.out; obtain ⟨y0, y1, y2⟩ := hb2.c3; have f0 := hb2.frozen 0)
  go_ret
  obtain ⟨O', q1, q2, q3⟩ := FIN.out _ _ hown2 hg2 hat2
  have hL := HL.out
  rw [← HFL.out] at hL
  exact ⟨O', rfl, by rw [hL]; exact q1, q2, q3⟩
end
end Go.Proofs.YtciolppoanfiaaaDoor

/- The bag's Look. -/
namespace Go.Proofs.YtciolppoanfiaaaDoor
open Go.RowKit Go.ChangeMaps
section
variable {H : Nat} {w : World} {O : Nat → Prop} {g : Nat} {fs : List (List UInt8)} {ks : List (Int × Int)} {lost : Nat}
set_option maxRecDepth 100000 in
set_option maxHeartbeats 1000000 in
theorem blook_no (i : Int) (w : World) (h : BagAt H w O g fs ks lost) (hi : ¬ (0 ≤ i ∧ i < (fs.length : Int))) :
    Calls Tryd.prog 41 #[.pointer (some ⟨g, 0, none⟩), .int .i64 i] w fun e w' => e = .returned (.tuple #[Msg.zero.v, .int .i64 1]) ∧ Below w.heap.size w w' := by
  have R0 := Blk.new w 41 #[.int .i64 0, .int .i64 0, .int .i64 0, .int .u64 0, .int .u64 0, .int .u64 0, .int .u64 0, .bool false, .slice none 0 0, .slice none 0 0]
  have D0 := (Below.refl w.heap.size w).alloc (Nat.le_refl _) (.cells #[.int .i64 0, .int .i64 0, .int .i64 0, .int .u64 0, .int .u64 0, .int .u64 0, .int .u64 0, .bool false, .slice none 0 0, .slice none 0 0] 41)
  have hc := bhas_any i _ (h.alloc (.cells #[.int .i64 0, .int .i64 0, .int .i64 0, .int .u64 0, .int .u64 0, .int .u64 0, .int .u64 0, .bool false, .slice none 0 0, .slice none 0 0] 41)) (decide_eq_false hi)
  have HC := Lib.hid hc
  clear hc hi h
  have r0 := R0.cell 0
  have e0 := R0.frozen 0
  have r1 := R0.cell 1
  have e1 := R0.frozen 1
  have r2 := R0.cell 2
  have e2 := R0.frozen 2
  have r3 := R0.cell 3
  have e3 := R0.frozen 3
  have r4 := R0.cell 4
  have e4 := R0.frozen 4
  have r5 := R0.cell 5
  have e5 := R0.frozen 5
  have r6 := R0.cell 6
  have e6 := R0.frozen 6
  have r7 := R0.cell 7
  have e7 := R0.frozen 7
  have r8 := R0.cell 8
  have e8 := R0.frozen 8
  have r9 := R0.cell 9
  have e9 := R0.frozen 9
  simp only [List.getElem?_toArray, List.getElem?_cons_zero, List.getElem?_cons_succ] at r0 r1 r2 r3 r4 r5 r6 r7 r8 r9
  go_enter Tryd.func41, Tryd.ntmps41
  go_wp2_with fail
  refine HC.out.mono ?_
  rintro e _ ⟨rfl, rfl⟩
  go_wp2
  exact bodyPost_ret (v := .tuple #[Msg.zero.v, .int .i64 1]) (by simp [results, Tryd.results41, go_sem, Msg.v, mcells, Msg.zero]) rfl ⟨rfl, D0⟩
set_option maxRecDepth 100000 in
set_option maxHeartbeats 2000000 in
theorem blook_ok (i : Nat) (l : List UInt8) (w : World) (h : BagAt H w O g fs ks lost) (hi : fs[i]? = some l) (hl : l.length ≤ 100000) (hn : fs.length ≤ 1000) (hT : Tab w) (hH : 0 < w.heap.size) :
    Calls Tryd.prog 41 #[.pointer (some ⟨g, 0, none⟩), .int .i64 (i : Int)] w fun e w' => ∃ m : Msg, e = .returned (.tuple #[m.v, .int .i64 (unE l : Nat)]) ∧ m.plain = unM l ∧ IsMsgT w' m ∧ Below w.heap.size w w' := by
  have R0 := Blk.new w 41 #[.int .i64 0, .int .i64 0, .int .i64 0, .int .u64 0, .int .u64 0, .int .u64 0, .int .u64 0, .bool false, .slice none 0 0, .slice none 0 0]
  have D0 := (Below.refl w.heap.size w).alloc (Nat.le_refl _) (.cells #[.int .i64 0, .int .i64 0, .int .i64 0, .int .u64 0, .int .u64 0, .int .u64 0, .int .u64 0, .bool false, .slice none 0 0, .slice none 0 0] 41)
  have hT0 := hT.below D0 hH
  have h0 := h.alloc (.cells #[.int .i64 0, .int .i64 0, .int .i64 0, .int .u64 0, .int .u64 0, .int .u64 0, .int .u64 0, .bool false, .slice none 0 0, .slice none 0 0] 41)
  have hin := (List.getElem?_eq_some_iff.1 hi).1
  have hc := bhas_any (i : Int) _ h0 (b := true) (decide_eq_true (by omega))
  have HC := Lib.hid hc
  obtain ⟨-, -, -, v, mb, F, hb, -, -, hF, hfs⟩ := h0
  obtain ⟨A, c, rfl, hs⟩ := own_sl hF.row
  have hnF : F.length = fs.length := by rw [← hfs, List.length_map]
  obtain ⟨ad, u, rfl, hu, hcell⟩ := hs.nth (k := i) (by omega)
  obtain ⟨fr, hfr, hul, huv⟩ : ∃ fr, fr ∈ F ∧ fr.l = l ∧ u = fr.v := by
    rw [← hfs, List.getElem?_map] at hi
    rw [List.getElem?_map] at hu
    cases hx : F[i]? with
    | none => rw [hx] at hi; cases hi
    | some fr => rw [hx] at hi hu; exact ⟨fr, List.mem_of_getElem? hx, by simpa using hi, by simpa using hu.symm⟩
  have hfo := hF.fr fr hfr
  rw [hul] at hfo
  subst huv
  have hbi := own_bytesIn hfo
  have hcall := unpack_any _ hbi (Nat.le_refl _) hT0 (Nat.lt_of_lt_of_le hH (by simp)) hl
  simp only [Fr.v] at hcell hcall
  rw [hul] at hcell hcall
  obtain ⟨x0, x1, x2⟩ := hb.c3
  obtain ⟨ln, hln⟩ : ∃ n, l.length = n := ⟨_, rfl⟩
  rw [hln] at hcell hcall
  have HCL := Lib.hid hcall
  rw [hnF] at x0
  have hmax := hs.max
  generalize fs.length = n at hn hin x0 hc HC
  clear hc hF hfs hs hu hfo hbi hcall hln hfr hb hT0 hT hul h hl hi hnF
  go_enter Tryd.func41, Tryd.ntmps41
  go_wp2_with fail
  refine HC.out.mono ?_
  rintro e _ ⟨rfl, rfl⟩
  clear HC
  go_wp2_with fail
  refine HCL.out.mono ?_
  rintro e w1 ⟨m, B1, d1, rfl, hpl, hmk, -, hb1⟩
  have R1 := R0.after hb1
  have D1 := D0.trans (hb1.mono D0.size)
  have z1 : w.heap.size < w1.heap.size := R1.lt
  clear R0 D0 hb1 HCL hcell x0 x1 x2
  obtain ⟨k, f, t, te, ix, pr, co, ok, dA, dc, d, eA, ec, es⟩ := m
  simp only [Msg.v, mcells]
  obtain ⟨M, hMd⟩ : ∃ M : Msg, M = ⟨k, f, t, te, ix, pr, co, ok, dA, dc, d, eA, ec, es⟩ := ⟨_, rfl⟩
  have vM : M.v = .agg #[.int .i64 k, .int .i64 f, .int .i64 t, .int .u64 (te : Int), .int .u64 (ix : Int), .int .u64 (pr : Int), .int .u64 (co : Int), .bool ok, .slice dA d.length dc, .slice eA es.length ec] := by rw [hMd]; rfl
  rw [← hMd] at hpl hmk
  generalize hdn : d.length = dn at vM ⊢
  generalize hen : es.length = en at vM ⊢
  clear hdn hen hMd
  have V := Lib.hid vM
  have HK := Lib.hid hmk
  have HPL := Lib.hid hpl
  clear vM hmk hpl
  obtain ⟨E0, hE0⟩ : ∃ E, unE l = E := ⟨_, rfl⟩
  rw [hE0]
  have HE0 := Lib.hid hE0
  clear hE0
  generalize (unR l).length = rl
  have r0 := R1.cell 0
  have e0 := R1.frozen 0
  have r1 := R1.cell 1
  have e1 := R1.frozen 1
  have r2 := R1.cell 2
  have e2 := R1.frozen 2
  have r3 := R1.cell 3
  have e3 := R1.frozen 3
  have r4 := R1.cell 4
  have e4 := R1.frozen 4
  have r5 := R1.cell 5
  have e5 := R1.frozen 5
  have r6 := R1.cell 6
  have e6 := R1.frozen 6
  have r7 := R1.cell 7
  have e7 := R1.frozen 7
  have r8 := R1.cell 8
  have e8 := R1.frozen 8
  have r9 := R1.cell 9
  have e9 := R1.frozen 9
  simp only [List.getElem?_toArray, List.getElem?_cons_zero, List.getElem?_cons_succ] at r0 r1 r2 r3 r4 r5 r6 r7 r8 r9
  obtain ⟨hg2, hbk0, -, -⟩ := msg_set R1 (.int .i64 k) (.int .i64 f) (.int .i64 t) (.int .u64 (te : Int)) (.int .u64 (ix : Int)) (.int .u64 (pr : Int)) (.int .u64 (co : Int)) (.bool ok) (.slice dA dn dc) (.slice eA en ec)
  have hbk2 := hbk0.alloc (.cells #[.int .i64 k, .int .i64 f, .int .i64 t, .int .u64 (te : Int), .int .u64 (ix : Int), .int .u64 (pr : Int), .int .u64 (co : Int), .bool ok, .slice dA dn dc, .slice eA en ec] 41)
  have hgg := only_alloc hg2 (.cells #[.int .i64 k, .int .i64 f, .int .i64 t, .int .u64 (te : Int), .int .u64 (ix : Int), .int .u64 (pr : Int), .int .u64 (co : Int), .bool ok, .slice dA dn dc, .slice eA en ec] 41)
  clear hg2 hbk0
  go_wp2
  obtain ⟨c0, c1, c2, c3, c4, c5, c6, c7, c8, c9⟩ := Blk.c10 hbk2
  exact bodyPost_ret (v := .tuple #[M.v, .int .i64 (E0 : Nat)]) (by rw [V.out]; simp [results, Tryd.results41, go_sem, c0, c1, c2, c3, c4, c5, c6, c7, c8, c9]) rfl ⟨M, by rw [HE0.out], HPL.out, HK.out.keep (KeepT.blk R1 (by decide) (by decide) hgg), D1.grown hgg D1.size (fun k e => by cases e; exact Nat.le_refl _)⟩
end
end Go.Proofs.YtciolppoanfiaaaDoor

/- The bag's Deliver. -/
namespace Go.Proofs.YtciolppoanfiaaaDoor
open Go.RowKit Go.ChangeMaps
theorem unM_rng (l : List UInt8) : (0 ≤ (unM l).f ∧ (unM l).f < 256) ∧ (0 ≤ (unM l).t ∧ (unM l).t < 256) := by
  have hz : (0 ≤ PMsg.zero.f ∧ PMsg.zero.f < 256) ∧ (0 ≤ PMsg.zero.t ∧ PMsg.zero.t < 256) := by decide
  unfold unM
  split
  · unfold decM
    split
    · have h1 := rdV_lt1 (rdN 1 (tP l, false))
      have h2 := rdV_lt1 (rdN 1 (rdN 1 (tP l, false)))
      simp only [decP]
      omega
    · exact hz
  · exact hz
/-- what Deliver answers -/
def dE (ks : List (Int × Int)) (l : List UInt8) : Nat := if unE l = 0 then (if pk (unM l).f (unM l).t ∈ ks then 50 else 0) else unE l
theorem unE_lt (l : List UInt8) : unE l < 100 := by
  unfold unE
  split
  · unfold decC
    split
    · exact endE_lt _ _
    · split
      · omega
      · exact checkK_lt ..
  · exact takeE_lt l
section
variable {H : Nat} {w : World} {O : Nat → Prop} {g : Nat} {fs : List (List UInt8)} {ks : List (Int × Int)} {lost : Nat}
theorem BagAt.lose1 (h : BagAt H w O g fs ks lost) : BagAt H (w.setCell ⟨g, 2, none⟩ (.int .i64 ((lost : Int) + 1))) O g fs ks (lost + 1) ∧ Chg O w (w.setCell ⟨g, 2, none⟩ (.int .i64 ((lost : Int) + 1))) ∧ KeepT w (w.setCell ⟨g, 2, none⟩ (.int .i64 ((lost : Int) + 1))) := h.lose (lost + 1)
theorem Chg.new_ {W W2 : World} {R : Nat} (h : Chg O w W) (hg : W.grownBy W2 (some R)) (hR : w.heap.size ≤ R) : Chg O w W2 :=
  ⟨hg.os.trans h.os, hg.tape.trans h.tape, hg.output.trans h.output, Nat.le_trans h.size hg.size, fun k hk hn => (hg.block k (Nat.lt_of_lt_of_le hk h.size) (fun e => by injection e with e; omega)).trans (h.block k hk hn)⟩
set_option maxRecDepth 100000 in
set_option maxHeartbeats 1000000 in
theorem bdeliver_no (i : Int) (w : World) (h : BagAt H w O g fs ks lost) (hi : ¬ (0 ≤ i ∧ i < (fs.length : Int))) :
    Calls Tryd.prog 37 #[.pointer (some ⟨g, 0, none⟩), .int .i64 i] w fun e w' => e = .returned (.tuple #[Msg.zero.v, .int .i64 1]) ∧ Below w.heap.size w w' := by
  have R0 := Blk.new w 41 #[.int .i64 0, .int .i64 0, .int .i64 0, .int .u64 0, .int .u64 0, .int .u64 0, .int .u64 0, .bool false, .slice none 0 0, .slice none 0 0]
  have D0 := (Below.refl w.heap.size w).alloc (Nat.le_refl _) (.cells #[.int .i64 0, .int .i64 0, .int .i64 0, .int .u64 0, .int .u64 0, .int .u64 0, .int .u64 0, .bool false, .slice none 0 0, .slice none 0 0] 41)
  have hc := bhas_any i _ (h.alloc (.cells #[.int .i64 0, .int .i64 0, .int .i64 0, .int .u64 0, .int .u64 0, .int .u64 0, .int .u64 0, .bool false, .slice none 0 0, .slice none 0 0] 41)) (decide_eq_false hi)
  have HC := Lib.hid hc
  clear hc hi h
  have r0 := R0.cell 0
  have e0 := R0.frozen 0
  have r1 := R0.cell 1
  have e1 := R0.frozen 1
  have r2 := R0.cell 2
  have e2 := R0.frozen 2
  have r3 := R0.cell 3
  have e3 := R0.frozen 3
  have r4 := R0.cell 4
  have e4 := R0.frozen 4
  have r5 := R0.cell 5
  have e5 := R0.frozen 5
  have r6 := R0.cell 6
  have e6 := R0.frozen 6
  have r7 := R0.cell 7
  have e7 := R0.frozen 7
  have r8 := R0.cell 8
  have e8 := R0.frozen 8
  have r9 := R0.cell 9
  have e9 := R0.frozen 9
  simp only [List.getElem?_toArray, List.getElem?_cons_zero, List.getElem?_cons_succ] at r0 r1 r2 r3 r4 r5 r6 r7 r8 r9
  go_enter Tryd.func37, Tryd.ntmps37
  go_wp2_with fail
  refine HC.out.mono ?_
  rintro e _ ⟨rfl, rfl⟩
  go_wp2
  exact bodyPost_ret (v := .tuple #[Msg.zero.v, .int .i64 1]) (by simp [results, Tryd.results37, go_sem, Msg.v, mcells, Msg.zero]) rfl ⟨rfl, D0⟩
set_option maxRecDepth 100000 in
set_option maxHeartbeats 4000000 in
theorem bdeliver_ok (i : Nat) (l : List UInt8) (w : World) (h : BagAt H w O g fs ks lost) (hi : fs[i]? = some l) (hl : l.length ≤ 100000) (hn : fs.length ≤ 1000) (hT : Tab w) (hH : 0 < H) (hHw : H ≤ w.heap.size) (hlo : lost < 1000000) {E : Nat} (hE : dE ks l = E) {P : PMsg} (hP : (if E = 0 then unM l else PMsg.zero) = P) {n : Nat} (hN : (if E = 0 then lost else lost + 1) = n) :
    Calls Tryd.prog 37 #[.pointer (some ⟨g, 0, none⟩), .int .i64 (i : Int)] w fun e w' => ∃ m : Msg, e = .returned (.tuple #[m.v, .int .i64 (E : Int)]) ∧ m.plain = P ∧ IsMsg w' m ∧ BagAt H w' O g (fs.eraseIdx i) ks n ∧ Chg O w w' := by
  have HE := Lib.hid hE
  have HP := Lib.hid hP
  have HN := Lib.hid hN
  clear hE hP hN
  have R0 := Blk.new w 41 #[.int .i64 0, .int .i64 0, .int .i64 0, .int .u64 0, .int .u64 0, .int .u64 0, .int .u64 0, .bool false, .slice none 0 0, .slice none 0 0]
  have D0 := (Below.refl w.heap.size w).alloc (Nat.le_refl _) (.cells #[.int .i64 0, .int .i64 0, .int .i64 0, .int .u64 0, .int .u64 0, .int .u64 0, .int .u64 0, .bool false, .slice none 0 0, .slice none 0 0] 41)
  have hT0 := hT.below D0 (Nat.lt_of_lt_of_le hH hHw)
  have h0 := h.alloc (.cells #[.int .i64 0, .int .i64 0, .int .i64 0, .int .u64 0, .int .u64 0, .int .u64 0, .int .u64 0, .bool false, .slice none 0 0, .slice none 0 0] 41)
  have hin := (List.getElem?_eq_some_iff.1 hi).1
  have hc := bhas_any (i : Int) _ h0 (b := true) (decide_eq_true (by omega))
  have hq := blook_ok i l _ h0 hi hl hn hT0 (Nat.lt_of_lt_of_le hH (Nat.le_trans hHw (by simp)))
  have htk : ∀ W, Below (w.alloc (.cells #[.int .i64 0, .int .i64 0, .int .i64 0, .int .u64 0, .int .u64 0, .int .u64 0, .int .u64 0, .bool false, .slice none 0 0, .slice none 0 0] 41)).heap.size (w.alloc (.cells #[.int .i64 0, .int .i64 0, .int .i64 0, .int .u64 0, .int .u64 0, .int .u64 0, .int .u64 0, .bool false, .slice none 0 0, .slice none 0 0] 41)) W → ∀ o, BagAt H (W.alloc o) O g fs ks lost := fun W hW o => (h0.after hW).alloc o
  have hbt : ∀ W, BagAt H W O g fs ks lost → Calls Tryd.prog 68 #[.pointer (some ⟨g, 0, none⟩), .int .i64 (i : Int)] W fun e w' => e = .returned (.tuple #[]) ∧ BagAt H w' O g (fs.eraseIdx i) ks lost ∧ Chg O W w' ∧ KeepT W w' := fun W hW => btake_any W i hW hin hn
  have hRO : ¬ O w.heap.size := fun hk => by have := h.top _ hk; omega
  have hrng := unM_rng l
  have HC := Lib.hid hc
  have HQ := Lib.hid hq
  have HTK := Lib.hid htk
  have HBT := Lib.hid hbt
  have HTOP : Hid (∀ k, O k → k < w.heap.size) := h.top
  have HRO := Lib.hid hRO
  have HLOW := Lib.hid h.low
  clear hc hq htk hbt hT0 hT h0 hRO h hl hi
  go_enter Tryd.func37, Tryd.ntmps37
  go_wp2_with fail
  refine HC.out.mono ?_
  rintro e _ ⟨rfl, rfl⟩
  clear HC
  go_wp2_with fail
  refine HQ.out.mono ?_
  rintro e w1 ⟨m, rfl, hpl, hmk, hb1⟩
  have R1 := R0.after hb1
  have D1 := D0.trans (hb1.mono D0.size)
  have hmf : m.f = (unM l).f := by rw [← hpl]; rfl
  have hmt : m.t = (unM l).t := by rw [← hpl]; rfl
  rw [← hmf, ← hmt] at hrng
  have BB := HTK.out w1 hb1
  have z1 : w.heap.size < w1.heap.size := R1.lt
  clear R0 D0 hb1 HQ HTK
  obtain ⟨k, f, t, te, ix, pr, co, ok, dA, dc, d, eA, ec, es⟩ := m
  simp only [Msg.v, mcells]
  obtain ⟨M, hMd⟩ : ∃ M : Msg, M = ⟨k, f, t, te, ix, pr, co, ok, dA, dc, d, eA, ec, es⟩ := ⟨_, rfl⟩
  have vM : M.v = .agg #[.int .i64 k, .int .i64 f, .int .i64 t, .int .u64 (te : Int), .int .u64 (ix : Int), .int .u64 (pr : Int), .int .u64 (co : Int), .bool ok, .slice dA d.length dc, .slice eA es.length ec] := by rw [hMd]; rfl
  rw [← hMd] at hpl hmk
  have hmf' : M.f = f := by rw [hMd]
  have hmt' : M.t = t := by rw [hMd]
  have HMF : Hid (pk (unM l).f (unM l).t = pk f t) := by show _ = _; rw [← hmf, ← hmt]
  have hf : -9223372036854775808 ≤ f ∧ f ≤ 9223372036854775807 := by simp only at hrng; omega
  have ht : -9223372036854775808 ≤ t ∧ t ≤ 9223372036854775807 := by simp only at hrng; omega
  clear hmf' hmt' hmf hmt hrng
  generalize hdn : d.length = dn at vM ⊢
  generalize hen : es.length = en at vM ⊢
  clear hdn hen hMd
  have V := Lib.hid vM
  have HK := Lib.hid hmk
  have HPL := Lib.hid hpl
  clear vM hmk hpl
  obtain ⟨E0, hE0⟩ : ∃ E, unE l = E := ⟨_, rfl⟩
  rw [hE0]
  have HE0 := Lib.hid hE0
  clear hE0
  have hB1 := BB (.cells #[.int .i64 k, .int .i64 f, .int .i64 t, .int .u64 (te : Int), .int .u64 (ix : Int), .int .u64 (pr : Int), .int .u64 (co : Int), .bool ok, .slice dA dn dc, .slice eA en ec] 41)
  have QB := Blk.new w1 41 #[.int .i64 k, .int .i64 f, .int .i64 t, .int .u64 (te : Int), .int .u64 (ix : Int), .int .u64 (pr : Int), .int .u64 (co : Int), .bool ok, .slice dA dn dc, .slice eA en ec]
  have R2 := R1.alloc (.cells #[.int .i64 k, .int .i64 f, .int .i64 t, .int .u64 (te : Int), .int .u64 (ix : Int), .int .u64 (pr : Int), .int .u64 (co : Int), .bool ok, .slice dA dn dc, .slice eA en ec] 41)
  have D2 := D1.alloc D1.size (.cells #[.int .i64 k, .int .i64 f, .int .i64 t, .int .u64 (te : Int), .int .u64 (ix : Int), .int .u64 (pr : Int), .int .u64 (co : Int), .bool ok, .slice dA dn dc, .slice eA en ec] 41)
  have HK2 := Lib.hid (HK.out.keep (KeepT.below ((Below.refl w1.heap.size w1).alloc (Nat.le_refl _) (.cells #[.int .i64 k, .int .i64 f, .int .i64 t, .int .u64 (te : Int), .int .u64 (ix : Int), .int .u64 (pr : Int), .int .u64 (co : Int), .bool ok, .slice dA dn dc, .slice eA en ec] 41))))
  have hB2 := Lib.hid hB1
  clear BB hB1 R1 D1 HK
  go_wp2_with fail
  refine (HBT.out _ hB2.out).mono ?_
  rintro e w3 ⟨rfl, hB3, hC3, hK3⟩
  have R3 := R2.chg hC3 HRO.out
  have Q3 := QB.chg hC3 (fun hk => by have := HTOP.out _ hk; omega)
  have HM3 := Lib.hid (HK2.out.keep hK3)
  have hC3' : Chg O w w3 := (Chg.below D2).same hC3
  have h3 := hB3
  obtain ⟨hlow3, htop3, hgO, v, mb, F, hb3, hmO, hm3, -, -⟩ := h3
  have hgw := HTOP.out g hgO
  have hmlt := hm3.lt
  have hgm := map_ne_blk hb3 hm3
  clear R2 QB D2 hB2 HK2 HBT hC3 hK3
  obtain ⟨r, hr⟩ : ∃ r, decide (pk f t ∈ ks) = r := ⟨_, rfl⟩
  obtain ⟨lv, hlook⟩ := map_look hm3 (pk_ik hf ht) hr
  have hD4 : Below w3.heap.size w3 (w3.alloc (.cells #[.int .i64 (min f t), .int .i64 (max f t)] 97)).drew := ((Below.refl w3.heap.size w3).alloc (Nat.le_refl _) _).drew
  have hrun := hlook (w3.alloc (.cells #[.int .i64 (min f t), .int .i64 (max f t)] 97)).drew (hD4.block mb hmlt)
  have HR := Lib.hid hr
  have X1 := hb3.cell 1
  have X2 := Q3.cell 1
  have X3 := Q3.cell 2
  have Y1 := (hb3.after hD4).cell 1
  have Y2 := (Q3.after hD4).cell 1
  have Y3 := (Q3.after hD4).cell 2
  simp only [List.getElem?_toArray, List.getElem?_cons_zero, List.getElem?_cons_succ] at X1 X2 X3 Y1 Y2 Y3
  have HY : Hid ((w3.alloc (.cells #[.int .i64 (min f t), .int .i64 (max f t)] 97)).drew.cell? ⟨g, 1, none⟩ = some (.map (some mb)) ∧ (w3.alloc (.cells #[.int .i64 (min f t), .int .i64 (max f t)] 97)).drew.cell? ⟨w1.heap.size, 1, none⟩ = some (.int .i64 f) ∧ (w3.alloc (.cells #[.int .i64 (min f t), .int .i64 (max f t)] 97)).drew.cell? ⟨w1.heap.size, 2, none⟩ = some (.int .i64 t)) := ⟨Y1, Y2, Y3⟩
  have R4 := R3.after hD4
  have Q4 := Q3.after hD4
  have hB4 := hB3.after hD4
  have hC4 : Chg O w (w3.alloc (.cells #[.int .i64 (min f t), .int .i64 (max f t)] 97)).drew := hC3'.same (Chg.below hD4)
  have HM4 := Lib.hid (HM3.out.keep (KeepT.below hD4))
  have HB4 := Lib.hid hB4
  have HC4 := Lib.hid hC4
  clear Y1 Y2 Y3 hlook hr hm3 hB3 hC3' hB4 hC4 hlow3 htop3 HM3 R3 Q3 hb3
  go_wp2_with fail
  go_region_held3 (fun W' => W'.cell? ⟨g, 1, none⟩ = some (.map (some mb)) ∧ W'.cell? ⟨w1.heap.size, 1, none⟩ = some (.int .i64 f) ∧ W'.cell? ⟨w1.heap.size, 2, none⟩ = some (.int .i64 t)) (first | exact ⟨X1, X2, X3⟩ | exact HY.out | go_keep) (first | (go_at_call 65; refine (pair_any f t _).mono ?_; rintro e w' ⟨rfl, rfl⟩))
  clear X1 X2 X3 HY hrun
  generalize (w3.alloc (.cells #[.int .i64 (min f t), .int .i64 (max f t)] 97)).drew = W at R4 Q4 HB4 HC4 HM4 hD4 ⊢
  have hRg : w.heap.size ≠ g := by omega
  have hgR : g ≠ w.heap.size := by omega
  by_cases h0 : E0 = 0
  · subst h0
    cases r with
    | false =>
      have hdE : dE ks l = 0 := by
        unfold dE
        rw [if_pos HE0.out, HMF.out, if_neg (of_decide_eq_false HR.out)]
      have HDE := Lib.hid hdE
      clear hdE
      have r0 := R4.cell 0
      have e0 := R4.frozen 0
      have r1 := R4.cell 1
      have e1 := R4.frozen 1
      have r2 := R4.cell 2
      have e2 := R4.frozen 2
      have r3 := R4.cell 3
      have e3 := R4.frozen 3
      have r4 := R4.cell 4
      have e4 := R4.frozen 4
      have r5 := R4.cell 5
      have e5 := R4.frozen 5
      have r6 := R4.cell 6
      have e6 := R4.frozen 6
      have r7 := R4.cell 7
      have e7 := R4.frozen 7
      have r8 := R4.cell 8
      have e8 := R4.frozen 8
      have r9 := R4.cell 9
      have e9 := R4.frozen 9
      simp only [List.getElem?_toArray, List.getElem?_cons_zero, List.getElem?_cons_succ] at r0 r1 r2 r3 r4 r5 r6 r7 r8 r9
      obtain ⟨m0, m1, m2, m3, m4, m5, m6, m7, m8, m9⟩ := Q4.c10
      go_wp2
      obtain ⟨hg2, hbk2, -, -⟩ := msg_set R4 (.int .i64 k) (.int .i64 f) (.int .i64 t) (.int .u64 (te : Int)) (.int .u64 (ix : Int)) (.int .u64 (pr : Int)) (.int .u64 (co : Int)) (.bool ok) (.slice dA dn dc) (.slice eA en ec)
      obtain ⟨c0, c1, c2, c3, c4, c5, c6, c7, c8, c9⟩ := Blk.c10 hbk2
      refine bodyPost_ret (v := .tuple #[M.v, .int .i64 0]) (by rw [V.out]; simp [results, Tryd.results37, go_sem, c0, c1, c2, c3, c4, c5, c6, c7, c8, c9]) rfl ⟨M, by rw [← HE.out, HDE.out]; rfl, by rw [← HP.out, ← HE.out, if_pos HDE.out]; exact HPL.out, (HM4.out.keep (KeepT.blk R4 (by decide) (by decide) hg2)).1, ?_, HC4.out.new_ hg2 (Nat.le_refl _)⟩
      rw [← HN.out, ← HE.out, if_pos HDE.out]
      exact HB4.out.keep (fun b hO => hg2.block b (HB4.out.top b hO) (fun e => by injection e with e; exact HRO.out (e ▸ hO))) hg2.size
    | true =>
      have hdE : dE ks l = 50 := by
        unfold dE
        rw [if_pos HE0.out, HMF.out, if_pos (of_decide_eq_true HR.out)]
      have HDE := Lib.hid hdE
      clear hdE
      obtain ⟨l1, l2, l3⟩ := HB4.out.lose1
      have L1 := Lib.hid l1
      have L2 := Lib.hid l2
      have R5 := R4.far (p := ⟨g, 2, none⟩) hRg (.int .i64 ((lost : Int) + 1))
      have hb5 := HB4.out
      obtain ⟨-, -, -, v5, mb5, F5, hb5, -, -, -, -⟩ := hb5
      obtain ⟨y0, y1, y2⟩ := hb5.c3
      have f2 := hb5.frozen 2
      clear hb5 l1 l2 l3 y0 y1
      have r0 := R4.cell 0
      have e0 := R4.frozen 0
      have r1 := R4.cell 1
      have e1 := R4.frozen 1
      have r2 := R4.cell 2
      have e2 := R4.frozen 2
      have r3 := R4.cell 3
      have e3 := R4.frozen 3
      have r4 := R4.cell 4
      have e4 := R4.frozen 4
      have r5 := R4.cell 5
      have e5 := R4.frozen 5
      have r6 := R4.cell 6
      have e6 := R4.frozen 6
      have r7 := R4.cell 7
      have e7 := R4.frozen 7
      have r8 := R4.cell 8
      have e8 := R4.frozen 8
      have r9 := R4.cell 9
      have e9 := R4.frozen 9
      simp only [List.getElem?_toArray, List.getElem?_cons_zero, List.getElem?_cons_succ] at r0 r1 r2 r3 r4 r5 r6 r7 r8 r9
      go_wp2
      obtain ⟨hg2, hbk2, -, -⟩ := msg_set R5 (.int .i64 0) (.int .i64 0) (.int .i64 0) (.int .u64 0) (.int .u64 0) (.int .u64 0) (.int .u64 0) (.bool false) (.slice none 0 0) (.slice none 0 0)
      obtain ⟨c0, c1, c2, c3, c4, c5, c6, c7, c8, c9⟩ := Blk.c10 hbk2
      have hz : dE ks l ≠ 0 := by rw [HDE.out]; decide
      refine bodyPost_ret (v := .tuple #[Msg.zero.v, .int .i64 50]) (by simp [results, Tryd.results37, go_sem, c0, c1, c2, c3, c4, c5, c6, c7, c8, c9, Msg.v, mcells, Msg.zero]) rfl ⟨Msg.zero, by rw [← HE.out, HDE.out]; rfl, by rw [← HP.out, ← HE.out, if_neg hz]; rfl, isMsg_zero _, ?_, (HC4.out.same L2.out).new_ hg2 (Nat.le_refl _)⟩
      rw [← HN.out, ← HE.out, if_neg hz]
      exact L1.out.keep (fun b hO => hg2.block b (L1.out.top b hO) (fun e => by injection e with e; exact HRO.out (e ▸ hO))) hg2.size
  · have hdE : dE ks l = E0 := by
      unfold dE
      rw [if_neg (by rw [HE0.out]; exact h0), HE0.out]
    have HDE := Lib.hid hdE
    clear hdE
    have k1 : ((E0 : Int) == 0) = false := by simp; omega
    have k2 : ((E0 : Int) != 0) = true := bne_iff_ne.2 (by omega)
    cases r
    all_goals
      obtain ⟨l1, l2, l3⟩ := HB4.out.lose1
      have L1 := Lib.hid l1
      have L2 := Lib.hid l2
      have R5 := R4.far (p := ⟨g, 2, none⟩) hRg (.int .i64 ((lost : Int) + 1))
      have hb5 := HB4.out
      obtain ⟨-, -, -, v5, mb5, F5, hb5, -, -, -, -⟩ := hb5
      obtain ⟨y0, y1, y2⟩ := hb5.c3
      have f2 := hb5.frozen 2
      clear hb5 l1 l2 l3 y0 y1
      have r0 := R4.cell 0
      have e0 := R4.frozen 0
      have r1 := R4.cell 1
      have e1 := R4.frozen 1
      have r2 := R4.cell 2
      have e2 := R4.frozen 2
      have r3 := R4.cell 3
      have e3 := R4.frozen 3
      have r4 := R4.cell 4
      have e4 := R4.frozen 4
      have r5 := R4.cell 5
      have e5 := R4.frozen 5
      have r6 := R4.cell 6
      have e6 := R4.frozen 6
      have r7 := R4.cell 7
      have e7 := R4.frozen 7
      have r8 := R4.cell 8
      have e8 := R4.frozen 8
      have r9 := R4.cell 9
      have e9 := R4.frozen 9
      simp only [List.getElem?_toArray, List.getElem?_cons_zero, List.getElem?_cons_succ] at r0 r1 r2 r3 r4 r5 r6 r7 r8 r9
      go_wp2
      obtain ⟨hg2, hbk2, -, -⟩ := msg_set R5 (.int .i64 0) (.int .i64 0) (.int .i64 0) (.int .u64 0) (.int .u64 0) (.int .u64 0) (.int .u64 0) (.bool false) (.slice none 0 0) (.slice none 0 0)
      obtain ⟨c0, c1, c2, c3, c4, c5, c6, c7, c8, c9⟩ := Blk.c10 hbk2
      have hz : dE ks l ≠ 0 := by rw [HDE.out]; exact h0
      refine bodyPost_ret (v := .tuple #[Msg.zero.v, .int .i64 (E0 : Nat)]) (by simp [results, Tryd.results37, go_sem, c0, c1, c2, c3, c4, c5, c6, c7, c8, c9, Msg.v, mcells, Msg.zero]) rfl ⟨Msg.zero, by rw [← HE.out, HDE.out], by rw [← HP.out, ← HE.out, if_neg hz]; rfl, isMsg_zero _, ?_, (HC4.out.same L2.out).new_ hg2 (Nat.le_refl _)⟩
      rw [← HN.out, ← HE.out, if_neg hz]
      exact L1.out.keep (fun b hO => hg2.block b (L1.out.top b hO) (fun e => by injection e with e; exact HRO.out (e ▸ hO))) hg2.size
end
end Go.Proofs.YtciolppoanfiaaaDoor
