import Derived.Test.YtciolppoanfiaaaDoorXUnpack
import Derived.Test.YtciolppoanfiaaaDoorXPack
import Derived.DeepKeys4
import Derived.Maps.Keyed
import Derived.NoCompiler
import Derived.WideKeyElems
import Derived.Deep.RegionHeld3
import Derived.Deep.RegionWith
import Derived.Deep.RegionLaw
import Derived.Deep.QuietTactic
import Derived.BigQuiet
import Derived.Lib.SliceRun
import Derived.WalkLawsBesides
/- A bag in memory: its frames, its map, which blocks are its own. -/
namespace Go.Proofs.YtciolppoanfiaaaDoor
open Go.RowKit Go.ChangeMaps

/-- blocks but those of O are as they were -/
structure Chg (O : Nat → Prop) (w w' : World) : Prop where
  os : w'.os = w.os
  tape : w'.tape = w.tape
  output : w'.output = w.output
  size : w.heap.size ≤ w'.heap.size
  block : ∀ k, k < w.heap.size → ¬ O k → w'.heap[k]? = w.heap[k]?
def Sub (O : Nat → Prop) (w : World) (O' : Nat → Prop) : Prop := ∀ k, O' k → O k ∨ w.heap.size ≤ k
section
variable {O O' : Nat → Prop} {w w1 w2 : World}
theorem Chg.refl (O : Nat → Prop) (w : World) : Chg O w w := ⟨rfl, rfl, rfl, Nat.le_refl _, fun _ _ _ => rfl⟩
theorem Chg.below (h : Below w.heap.size w w1) : Chg O w w1 := ⟨h.os, h.tape, h.output, h.size, fun k hk _ => h.block k hk⟩
theorem Chg.grown {r : Option Nat} (h : w.grownBy w1 r) (hr : ∀ g, r = some g → O g ∨ w.heap.size ≤ g) : Chg O w w1 :=
  ⟨h.os, h.tape, h.output, h.size, fun k hk hn => h.block k hk (fun e => by rcases hr k e.symm with h1 | h1; exact hn h1; omega)⟩
theorem Chg.trans (h : Chg O w w1) (hs : Sub O w O') (k : Chg O' w1 w2) : Chg O w w2 :=
  ⟨k.os.trans h.os, k.tape.trans h.tape, k.output.trans h.output, Nat.le_trans h.size k.size, fun i hi hn => (k.block i (Nat.lt_of_lt_of_le hi h.size) (fun hO => by rcases hs i hO with h1 | h1; exact hn h1; omega)).trans (h.block i hi hn)⟩
theorem Chg.same (h : Chg O w w1) (k : Chg O w1 w2) : Chg O w w2 := h.trans (fun _ hk => .inl hk) k
theorem Sub.refl (O : Nat → Prop) (w : World) : Sub O w O := fun _ h => .inl h
theorem Sub.trans {O'' : Nat → Prop} (h : Sub O w O') (k : Sub O' w1 O'') (hs : w.heap.size ≤ w1.heap.size) : Sub O w O'' := fun i hi => by
  rcases k i hi with h1 | h1
  · exact h i h1
  · exact .inr (by omega)
theorem Chg.toBelow {H : Nat} (h : Chg O w w1) (hO : ∀ k, O k → H ≤ k) (hH : H ≤ w.heap.size) : Below H w w1 := ⟨h.os, h.tape, h.output, h.size, fun k hk => h.block k (by omega) (fun h1 => by have := hO k h1; omega)⟩
theorem Blk.chg {g : Nat} {t : TypeId} {cs : Array Value} (h : Blk w g t cs) (hc : Chg O w w1) (hO : ¬ O g) : Blk w1 g t cs := (hc.block g h.lt hO).trans h
end

/-! ### the map -/
def kv (k : Int × Int) : Value := .agg #[.int .i64 k.1, .int .i64 k.2]
theorem kv_inj {a b : Int × Int} (h : kv a = kv b) : a = b := by
  obtain ⟨a1, a2⟩ := a
  obtain ⟨b1, b2⟩ := b
  simpa [kv] using h
def ik (k : Int × Int) : Prop := (-9223372036854775808 ≤ k.1 ∧ k.1 ≤ 9223372036854775807) ∧ (-9223372036854775808 ≤ k.2 ∧ k.2 ≤ 9223372036854775807)
theorem bagLaidOut : laidOutB Tryd.prog = true := by kernel_rfl
theorem bagRow : (97 : TypeId) < Tryd.prog.types.size := of_decide_eq_true (by kernel_rfl)
theorem bagWide : (match Tryd.prog.underlying 97 with | some (.array _ _) | some (.struct _) => true | _ => false) = true := by rw [Tryd.underlying97]
set_option maxRecDepth 1000000 in
theorem bagLaw : WideMaps.KeyLaw Tryd.prog 97 := deep_law_laid bagLaidOut (m := 2) (by omega) bagRow (by kernel_rfl) bagWide
set_option maxRecDepth 1000000 in
theorem bagKeyType : Tryd.prog.keyType 97 = true := by kernel_rfl
theorem kv_key {k : Int × Int} (h : ik k) : ∃ l, keyOf Tryd.prog 97 (kv k) = some l := by
  obtain ⟨a, b⟩ := k
  obtain ⟨⟨h1, h2⟩, h3, h4⟩ := h
  have wf : ∀ z : Int, -9223372036854775808 ≤ z → z ≤ 9223372036854775807 → (Lit.int .i64 z).wf = true := fun z h1 h2 => by
    have e1 : IntKind.i64.min = -9223372036854775808 := by decide
    have e2 : IntKind.i64.max = 9223372036854775807 := by decide
    simp only [Lit.wf, e1, e2, Bool.and_eq_true, decide_eq_true_eq]
    exact ⟨h1, h2⟩
  have wa := wf a h1 h2
  have wb := wf b h3 h4
  have e1 : (kv (a, b)).formed Tryd.prog 97 = true := by kernel_rfl
  unfold keyOf
  rw [Tryd.underlying97]
  simp only [bagKeyType, e1, Bool.and_self, if_true]
  have e2 : Tryd.prog.keyLits (Tryd.prog.types.size + 1) 97 (kv (a, b)).cells.toList = some [.int .i64 a, .int .i64 b] := by
    have hc : Tryd.prog.cellsOf 97 = 2 := by kernel_rfl
    have hi : Tryd.prog.cellsOf 3 = 1 := by kernel_rfl
    obtain ⟨d, hd⟩ : ∃ d, Tryd.prog.types.size + 1 = d + 2 := ⟨Tryd.prog.types.size - 1, by have h : 0 < Tryd.prog.types.size := Nat.lt_of_le_of_lt (Nat.zero_le _) bagRow; omega⟩
    rw [hd]
    have hm : ([0, 1] : List Nat).mapM (fun i => Tryd.prog.keyLits (d + 1) 3 (([Value.int .i64 a, Value.int .i64 b].drop (i * 1)).take 1)) = some [[Lit.int .i64 a], [Lit.int .i64 b]] := by
      simp only [List.mapM_cons, List.mapM_nil, Nat.zero_mul, Nat.one_mul, List.drop_zero, List.drop_succ_cons, List.take_succ_cons, List.take_zero]
      simp only [Program.keyLits, Tryd.underlying3, wa, wb]
      rfl
    have hr : List.range 2 = [0, 1] := rfl
    show Tryd.prog.keyLits (d + 1 + 1) 97 [Value.int .i64 a, Value.int .i64 b] = _
    unfold Program.keyLits
    rw [Tryd.underlying97]
    simp only [hc, hi, List.length_cons, List.length_nil, if_true, hr, hm]
    rfl
  rw [e2]
  exact ⟨_, rfl⟩
/-- block b is a map of these keys -/
def MapIs (w : World) (b : Nat) (ks : List (Int × Int)) : Prop := ∃ es clock, w.heap[b]? = some (.map es clock) ∧ es.toList.map (·.key) = ks.map kv ∧ ks.Nodup ∧ (∀ k ∈ ks, ik k) ∧ ∀ e ∈ es.toList, e.val = .int .i64 1
theorem MapIs.keep {w w' : World} {b : Nat} {ks : List (Int × Int)} (h : MapIs w b ks) (hb : w'.heap[b]? = w.heap[b]?) : MapIs w' b ks := by
  obtain ⟨es, c, h1, h2⟩ := h
  exact ⟨es, c, hb.trans h1, h2⟩
theorem MapIs.lt {w : World} {b : Nat} {ks : List (Int × Int)} (h : MapIs w b ks) : b < w.heap.size := by
  obtain ⟨es, c, h1, _⟩ := h
  exact (Array.getElem?_eq_some_iff.1 h1).1
theorem bag_zero (w : World) : (zeroValue 3).run Tryd.prog w = .ok (.int .i64 0) w := by kernel_rfl
theorem map_find {w : World} {es : Array MapEntry} {ks : List (Int × Int)} (hk : es.toList.map (·.key) = ks.map kv) (hi : ∀ k ∈ ks, ik k) {k : Int × Int} (hik : ik k) :
    ((Instr.findKey 97 (kv k) es.toList).run Tryd.prog w = .ok none w ∧ k ∉ ks) ∨ ∃ j e, (Instr.findKey 97 (kv k) es.toList).run Tryd.prog w = .ok (some (j, e.val)) w ∧ es.toList[j]? = some e ∧ e.key = kv k ∧ ks[j]? = some k := by
  obtain ⟨l, hl⟩ := kv_key hik
  have hes : ∀ e ∈ es.toList, ∃ l, keyOf Tryd.prog 97 e.key = some l := fun e he => by
    have : e.key ∈ ks.map kv := by rw [← hk]; exact List.mem_map.2 ⟨e, he, rfl⟩
    obtain ⟨k', hk', h2⟩ := List.mem_map.1 this
    rw [← h2]
    exact kv_key (hi k' hk')
  rcases bagLaw.find w hl es.toList hes with ⟨h1, h2⟩ | ⟨j, e, h1, h2, h3⟩
  · refine .inl ⟨h1, fun hm => ?_⟩
    have : kv k ∈ es.toList.map (·.key) := by rw [hk]; exact List.mem_map.2 ⟨k, hm, rfl⟩
    obtain ⟨e, he, h3⟩ := List.mem_map.1 this
    exact h2 e he h3
  · refine .inr ⟨j, e, h1, h2, h3, ?_⟩
    have h4 : (es.toList.map (·.key))[j]? = some (kv k) := by rw [List.getElem?_map, h2]; simp [h3]
    rw [hk, List.getElem?_map] at h4
    cases h5 : ks[j]? with
    | none => rw [h5] at h4; cases h4
    | some k' => rw [h5] at h4; rw [kv_inj (Option.some.inj h4)]
/-- _, ok := m[k], in whatever world has the map so -/
theorem map_look {w : World} {b : Nat} {ks : List (Int × Int)} (h : MapIs w b ks) {k : Int × Int} (hik : ik k) {r : Bool} (hr : decide (k ∈ ks) = r) :
    ∃ v, ∀ w', w'.heap[b]? = w.heap[b]? → (Instr.lookup 94 (.map (some b)) (kv k) true).run Tryd.prog w' = .ok (.tuple #[v, .bool r]) w' := by
  obtain ⟨es, c, hb, hk, hn, hi, hv⟩ := h
  obtain ⟨l, hl⟩ := kv_key hik
  subst hr
  rcases map_find (w := w) hk hi hik with ⟨h1, h2⟩ | ⟨j, e, h1, h2, h3, h4⟩
  · refine ⟨.int .i64 0, fun w' hw => ?_⟩
    rcases map_find (w := w') hk hi hik with ⟨h1, -⟩ | ⟨j, e, -, -, -, h4⟩
    · rw [decide_eq_false h2]
      simp [Instr.lookup, run_underlying Tryd.underlying94, bagLaw.check w' _ hl, h1, Result.andThen, MapKept.run_getObj_map (hw.trans hb)]
    · exact absurd (List.mem_of_getElem? h4) h2
  · refine ⟨.int .i64 1, fun w' hw => ?_⟩
    rcases map_find (w := w') hk hi hik with ⟨-, h2'⟩ | ⟨j', e', h1', h2', h3', h4'⟩
    · exact absurd (List.mem_of_getElem? h4) h2'
    · rw [decide_eq_true (List.mem_of_getElem? h4)]
      have hval : e'.val = .int .i64 1 := hv e' (List.mem_of_getElem? h2')
      simp [Instr.lookup, run_underlying Tryd.underlying94, bagLaw.check w' _ hl, h1', hval, Result.andThen, MapKept.run_getObj_map (hw.trans hb)]
theorem setBlock_grown (w : World) (b : Nat) (o : Obj) : w.grownBy (setBlock w b o) (some b) :=
  ⟨rfl, rfl, rfl, by simp [setBlock], fun k hk hne => by
    have h : b ≠ k := fun e => hne (by rw [e])
    simp only [setBlock]
    rw [Array.getElem?_setIfInBounds_ne h]⟩
theorem setBlock_at {w : World} {b : Nat} {o o' : Obj} (h : w.heap[b]? = some o') : (setBlock w b o).heap[b]? = some o := by
  have := (Array.getElem?_eq_some_iff.1 h).1
  simp [setBlock, this]
/-- m[k] = 1, in whatever world has the map so -/
theorem map_put {w : World} {b : Nat} {ks : List (Int × Int)} (h : MapIs w b ks) {k : Int × Int} (hik : ik k) :
    ∃ o, ∀ w', w'.heap[b]? = w.heap[b]? → (Instr.mapUpdate 94 (.map (some b)) (kv k) (.int .i64 1)).run Tryd.prog w' = .ok () (setBlock w' b o) ∧ MapIs (setBlock w' b o) b (if k ∈ ks then ks else ks ++ [k]) := by
  obtain ⟨es, c, hb, hk, hn, hi, hv⟩ := h
  obtain ⟨l, hl⟩ := kv_key hik
  by_cases hm : k ∈ ks
  · have hlt : ∃ j, ks.idxOf k = j := ⟨_, rfl⟩
    obtain ⟨j, hj⟩ := hlt
    refine ⟨.map (es.modify j fun e => { e with key := kv k, val := .int .i64 1 }) c, fun w' hw => ?_⟩
    rcases map_find (w := w') hk hi hik with ⟨-, h2⟩ | ⟨j', e, h1, h2, h3, h4⟩
    · exact absurd hm h2
    · have hjj : j' = j := by
        obtain ⟨g1, g2⟩ := List.getElem?_eq_some_iff.1 h4
        have := hn.idxOf_getElem j' g1
        rw [g2] at this
        omega
      subst hjj
      have hej : es[j']? = some e := by simpa using h2
      have hst := bagLaw.stays w' hl
      refine ⟨?_, _, _, setBlock_at (hw.trans hb), ?_, ?_, ?_, ?_⟩
      · simp [Instr.mapUpdate, run_underlying Tryd.underlying94, MapKept.run_getObj_map (hw.trans hb), bagLaw.check w' false hl, h1, hej, h3, hst, MapKept.run_setObj_map _ (hw.trans hb), Result.andThen, setBlock]
      · rw [if_pos hm, ← hk]
        apply List.ext_getElem?
        intro i
        simp only [List.getElem?_map, Array.getElem?_toList, Array.getElem?_modify]
        split
        · next hij =>
          subst hij
          rw [hej]
          simp [h3]
        · rfl
      · rw [if_pos hm]; exact hn
      · rw [if_pos hm]; exact hi
      · intro x hx
        obtain ⟨i, hix⟩ := List.getElem?_of_mem hx
        rw [Array.getElem?_toList, Array.getElem?_modify] at hix
        split at hix
        · obtain ⟨y, -, hy⟩ := Option.map_eq_some_iff.1 hix
          rw [← hy]
        · exact hv x (List.mem_of_getElem? (by rw [Array.getElem?_toList]; exact hix))
  · refine ⟨.map (es.push ⟨kv k, .int .i64 1, c⟩) (c + 1), fun w' hw => ?_⟩
    rcases map_find (w := w') hk hi hik with ⟨h1, h2⟩ | ⟨j', e, -, -, -, h4⟩
    · refine ⟨?_, _, _, setBlock_at (hw.trans hb), ?_, ?_, ?_, ?_⟩
      · simp [Instr.mapUpdate, run_underlying Tryd.underlying94, MapKept.run_getObj_map (hw.trans hb), bagLaw.check w' false hl, h1, MapKept.run_setObj_map _ (hw.trans hb), Result.andThen, setBlock]
      · rw [if_neg h2]
        simp [hk]
      · rw [if_neg h2]
        exact List.nodup_append.2 ⟨hn, by simp, fun a ha b hb => by rw [List.mem_singleton.1 hb]; exact fun e => h2 (e ▸ ha)⟩
      · rw [if_neg h2]
        intro k' hk'
        rcases List.mem_append.1 hk' with h | h
        · exact hi k' h
        · rw [List.mem_singleton.1 h]; exact hik
      · intro x hx
        rw [Array.toList_push, List.mem_append, List.mem_singleton] at hx
        rcases hx with h | h
        · exact hv x h
        · rw [h]
    · exact absurd (List.mem_of_getElem? h4) hm
/-- delete(m, k), in whatever world has the map so -/
theorem map_del {w : World} {b : Nat} {ks : List (Int × Int)} (h : MapIs w b ks) {k : Int × Int} (hik : ik k) (ty : TypeId) :
    ∃ o, ∀ w', w'.heap[b]? = w.heap[b]? → (Builtin.delete_ #[94, 97] ty #[.map (some b), kv k]).run Tryd.prog w' = .ok (.tuple #[]) (setBlock w' b o) ∧ MapIs (setBlock w' b o) b (ks.erase k) := by
  obtain ⟨es, c, hb, hk, hn, hi, hv⟩ := h
  obtain ⟨l, hl⟩ := kv_key hik
  by_cases hm : k ∈ ks
  · obtain ⟨j, hj⟩ : ∃ j, ks.idxOf k = j := ⟨_, rfl⟩
    refine ⟨.map (es.eraseIdxIfInBounds j) c, fun w' hw => ?_⟩
    rcases map_find (w := w') hk hi hik with ⟨-, h2⟩ | ⟨j', e, h1, h2, h3, h4⟩
    · exact absurd hm h2
    · have hjk := List.getElem?_eq_some_iff.1 h4
      have hjj : j' = j := by
        obtain ⟨g1, g2⟩ := hjk
        have := hn.idxOf_getElem j' g1
        rw [g2] at this
        omega
      subst hjj
      have hjl : j' < es.size := by simpa using (List.getElem?_eq_some_iff.1 h2).1
      have hsub : (es.eraseIdxIfInBounds j').toList = es.toList.eraseIdx j' := by
        unfold Array.eraseIdxIfInBounds
        rw [dif_pos hjl]
        simp
      have her : ks.erase k = ks.eraseIdx j' := by
        rw [List.erase_eq_eraseIdx_of_idxOf hj]
      refine ⟨?_, _, _, setBlock_at (hw.trans hb), ?_, ?_, ?_, ?_⟩
      · simp [Builtin.delete_, run_underlying Tryd.underlying94, MapKept.run_getObj_map (hw.trans hb), bagLaw.check w' _ hl, h1, MapKept.run_setObj_map _ (hw.trans hb), Result.andThen, setBlock]
      · rw [hsub, her, map_eraseIdx, map_eraseIdx, hk]
      · exact hn.erase k
      · exact fun k' hk' => hi k' (List.mem_of_mem_erase hk')
      · intro x hx
        rw [hsub] at hx
        exact hv x (List.mem_of_mem_eraseIdx hx)
  · refine ⟨.map es c, fun w' hw => ?_⟩
    rcases map_find (w := w') hk hi hik with ⟨h1, h2⟩ | ⟨j', e, -, -, -, h4⟩
    · refine ⟨?_, _, _, setBlock_at (hw.trans hb), ?_, ?_, ?_, hv⟩
      · simp [Builtin.delete_, run_underlying Tryd.underlying94, MapKept.run_getObj_map (hw.trans hb), bagLaw.check w' _ hl, h1, MapKept.run_setObj_map _ (hw.trans hb), Result.andThen, setBlock]
      · rw [List.erase_of_not_mem h2]; exact hk
      · rw [List.erase_of_not_mem h2]; exact hn
      · rw [List.erase_of_not_mem h2]; exact hi
    · exact absurd (List.mem_of_getElem? h4) hm

/-! ### the frames, the bag -/
structure Fr where
  b : Nat
  c : Nat
  l : List UInt8
def Fr.v (f : Fr) : Value := .slice (some ⟨f.b, 0, none⟩) f.l.length f.c
structure BagF (w : World) (O : Nat → Prop) (v : Value) (F : List Fr) : Prop where
  row : w.ownsRow 0 22 1 v F.length (F.map Fr.v)
  rowO : ∀ b, v.ownBlock = some b → O b
  fr : ∀ f ∈ F, w.ownsRow 0 5 1 f.v f.l.length (f.l.map bv)
  frO : ∀ f ∈ F, O f.b
  nd : (F.map Fr.b).Nodup
structure BagAt (H : Nat) (w : World) (O : Nat → Prop) (g : Nat) (fs : List (List UInt8)) (ks : List (Int × Int)) (lost : Nat) : Prop where
  low : ∀ k, O k → H ≤ k
  top : ∀ k, O k → k < w.heap.size
  gO : O g
  st : ∃ v mb F, Blk w g 96 #[v, .map (some mb), .int .i64 (lost : Int)] ∧ O mb ∧ MapIs w mb ks ∧ BagF w O v F ∧ F.map Fr.l = fs
section
variable {H : Nat} {w w1 : World} {O O2 : Nat → Prop} {g : Nat} {fs : List (List UInt8)} {ks : List (Int × Int)} {lost : Nat} {v : Value} {F : List Fr}
theorem own_chg {e : TypeId} {n : Nat} {xs : List Value} (h : w.ownsRow 0 e 1 v n xs) (hb : ∀ b, v.ownBlock = some b → w1.heap[b]? = w.heap[b]?) : w1.ownsRow 0 e 1 v n xs := by
  rcases h.2 with hn | ⟨b, cap, cur, hv, h1, h2, rest⟩
  · exact ⟨h.1, .inl hn⟩
  · exact ⟨h.1, .inr ⟨b, cap, cur, hv, h1, (hb b (by rw [hv]; rfl)).trans h2, rest⟩⟩
theorem BagF.keep (h : BagF w O v F) (hO : ∀ b, O b → w1.heap[b]? = w.heap[b]?) : BagF w1 O v F :=
  ⟨own_chg h.row fun b hb => hO b (h.rowO b hb), h.rowO, fun f hf => own_chg (h.fr f hf) fun b hb => by
    have e : f.b = b := by simpa [Fr.v, Value.ownBlock] using hb
    exact hO b (e ▸ h.frO f hf), h.frO, h.nd⟩
/-- nothing of the bag's own has changed -/
theorem BagAt.keep (h : BagAt H w O g fs ks lost) (hO : ∀ b, O b → w1.heap[b]? = w.heap[b]?) (hs : w.heap.size ≤ w1.heap.size) : BagAt H w1 O g fs ks lost := by
  obtain ⟨h1, h2, h3, v, mb, F, h4, h5, h6, h7, h8⟩ := h
  exact ⟨h1, fun k hk => Nat.lt_of_lt_of_le (h2 k hk) hs, h3, v, mb, F, (hO g h3).trans h4, h5, h6.keep (hO mb h5), h7.keep hO, h8⟩
theorem BagAt.after (h : BagAt H w O g fs ks lost) (hb : Below w.heap.size w w1) : BagAt H w1 O g fs ks lost := h.keep (fun b hO => hb.block b (h.top b hO)) hb.size
theorem BagAt.alloc (h : BagAt H w O g fs ks lost) (o : Obj) : BagAt H (w.alloc o) O g fs ks lost := h.keep (fun b hO => Below.heap_alloc w o b (h.top b hO)) (by simp)
theorem BagAt.drewN (h : BagAt H w O g fs ks lost) (q : Nat) : BagAt H (w.drewN q) O g fs ks lost := h.keep (fun _ _ => rfl) (Nat.le_refl _)
/-- what another bag's blocks do not touch -/
theorem BagAt.other (h : BagAt H w O2 g fs ks lost) (hc : Chg O w w1) (hd : ∀ k, O2 k → ¬ O k) : BagAt H w1 O2 g fs ks lost :=
  h.keep (fun b hO => hc.block b (h.top b hO) (hd b hO)) hc.size
theorem BagAt.apart {O' : Nat → Prop} (h : BagAt H w O2 g fs ks lost) (hd : ∀ k, O2 k → ¬ O k) (hs : Sub O w O') : ∀ k, O2 k → ¬ O' k := fun k hk hk' => by
  rcases hs k hk' with h1 | h1
  · exact hd k hk h1
  · have := h.top k hk; omega
theorem BagAt.tab (h : BagAt H w O g fs ks lost) (hc : Chg O w w1) (hT : Tab w) (hH : 0 < H) (hHw : H ≤ w.heap.size) : Tab w1 := hT.below (hc.toBelow h.low hHw) hH
end
end Go.Proofs.YtciolppoanfiaaaDoor

/- The bag's small functions. -/
namespace Go.Proofs.YtciolppoanfiaaaDoor
open Go.RowKit Go.ChangeMaps

set_option maxRecDepth 100000 in
theorem bnew_any (H : Nat) (w : World) (hH : H ≤ w.heap.size) :
    Calls Tryd.prog 33 #[] w fun e w' => ∃ g O, e = .returned (.pointer (some ⟨g, 0, none⟩)) ∧ BagAt H w' O g [] [] 0 ∧ (∀ k, O k → w.heap.size ≤ k) ∧ Below w.heap.size w w' := by
  have hmm := @run_makeMap Tryd.prog
  go_enter Tryd.func33, Tryd.ntmps33
  go_wp2
  go_ret
  refine ⟨w.heap.size + 1, fun k => k = w.heap.size ∨ k = w.heap.size + 1, rfl, ⟨?_, ?_, .inr rfl, .slice none 0 0, w.heap.size, [], ?_, .inl rfl, ⟨#[], 0, ?_, rfl, by simp, by simp, by simp⟩, ⟨World.ownsRow_nil _ _ _ _, ?_, by simp, by simp, by simp⟩, rfl⟩, ?_, ?_⟩
  · intro k hk; rcases hk with rfl | rfl <;> omega
  · intro k hk; rw [World.size_alloc, World.size_alloc]; rcases hk with rfl | rfl <;> omega
  · have := Blk.new (w.alloc (.map #[] 0)) 96 #[.slice none 0 0, .map (some w.heap.size), .int .i64 0]
    rw [World.size_alloc] at this
    exact this
  · exact (Below.heap_alloc _ _ _ (by simp)).trans (World.alloc_heap_new w _)
  · intro b hb; cases hb
  · intro k hk; rcases hk with rfl | rfl <;> omega
  · exact ((Below.refl _ w).alloc (Nat.le_refl _) _).alloc (by simp) _
def pk (x y : Int) : Int × Int := (min x y, max x y)
theorem pk_comm (x y : Int) : pk x y = pk y x := by unfold pk; rw [Int.min_comm, Int.max_comm]
theorem pk_ik {x y : Int} (hx : -9223372036854775808 ≤ x ∧ x ≤ 9223372036854775807) (hy : -9223372036854775808 ≤ y ∧ y ≤ 9223372036854775807) : ik (pk x y) := by
  unfold pk ik; simp only; omega
set_option maxRecDepth 100000 in
theorem pair_any (x y : Int) (w : World) : Calls Tryd.prog 65 #[.int .i64 x, .int .i64 y] w fun e w' => e = .returned (kv (pk x y)) ∧ w' = w.alloc (.cells #[.int .i64 (min x y), .int .i64 (max x y)] 97) := by
  have pw : ∀ a b : Int, (x = a ∧ y = b ∨ x = b ∧ y = a) → a < b ∨ a = b → pk x y = (a, b) ∧ min x y = a ∧ max x y = b := fun a b h1 h2 => by
    have h3 : min x y = a := by omega
    have h4 : max x y = b := by omega
    exact ⟨by unfold pk; rw [h3, h4], h3, h4⟩
  rcases Int.lt_trichotomy x y with h | h | h
  · obtain ⟨e1, e2, e3⟩ := pw x y (.inl ⟨rfl, rfl⟩) (.inl h)
    rw [e1, e2, e3]
    clear pw e1 e2 e3
    have h2 : x ≤ y := by omega
    have h3 : ¬ y ≤ x := by omega
    go_enter Tryd.func65, Tryd.ntmps65
    go_wp2
    exact bodyPost_ret (v := kv (x, y)) (by simp [results, Tryd.results65, go_sem, kv]) rfl ⟨rfl, rfl⟩
  · subst h
    obtain ⟨e1, e2, e3⟩ := pw x x (.inl ⟨rfl, rfl⟩) (.inr rfl)
    rw [e1, e2, e3]
    clear pw e1 e2 e3
    go_enter Tryd.func65, Tryd.ntmps65
    go_wp2
    exact bodyPost_ret (v := kv (x, x)) (by simp [results, Tryd.results65, go_sem, kv]) rfl ⟨rfl, rfl⟩
  · obtain ⟨e1, e2, e3⟩ := pw y x (.inr ⟨rfl, rfl⟩) (.inl h)
    rw [e1, e2, e3]
    clear pw e1 e2 e3
    have h2 : y ≤ x := by omega
    have h3 : ¬ x ≤ y := by omega
    go_enter Tryd.func65, Tryd.ntmps65
    go_wp2
    exact bodyPost_ret (v := kv (y, x)) (by simp [results, Tryd.results65, go_sem, kv]) rfl ⟨rfl, rfl⟩
section
variable {H : Nat} {O : Nat → Prop} {g : Nat} {fs : List (List UInt8)} {ks : List (Int × Int)} {lost : Nat}
set_option maxRecDepth 100000 in
theorem blen_any (w : World) (h : BagAt H w O g fs ks lost) : Calls Tryd.prog 40 #[.pointer (some ⟨g, 0, none⟩)] w fun e w' => e = .returned (.int .i64 (fs.length : Int)) ∧ w = w' := by
  obtain ⟨-, -, -, v, mb, F, hb, -, -, hF, rfl⟩ := h
  obtain ⟨A, c, rfl, hs⟩ := own_sl hF.row
  rw [List.length_map]
  obtain ⟨x0, x1, x2⟩ := hb.c3
  generalize F.length = n at hs x0 ⊢
  clear hF hb
  go_enter Tryd.func40, Tryd.ntmps40
  go_wp2
  go_ret
  exact ⟨rfl, rfl⟩
set_option maxRecDepth 100000 in
theorem blost_any (w : World) (h : BagAt H w O g fs ks lost) : Calls Tryd.prog 38 #[.pointer (some ⟨g, 0, none⟩)] w fun e w' => e = .returned (.int .i64 (lost : Int)) ∧ w = w' := by
  obtain ⟨-, -, -, v, mb, F, hb, -, -, hF, rfl⟩ := h
  obtain ⟨x0, x1, x2⟩ := hb.c3
  clear hF hb
  go_enter Tryd.func38, Tryd.ntmps38
  go_wp2
  go_ret
  exact ⟨rfl, rfl⟩
set_option maxRecDepth 100000 in
theorem bfull_any (w : World) (h : BagAt H w O g fs ks lost) {b : Bool} (hb : decide (60 ≤ fs.length) = b) : Calls Tryd.prog 66 #[.pointer (some ⟨g, 0, none⟩)] w fun e w' => e = .returned (.bool b) ∧ w = w' := by
  obtain ⟨-, -, -, v, mb, F, hbk, -, -, hF, rfl⟩ := h
  obtain ⟨A, c, rfl, hs⟩ := own_sl hF.row
  rw [List.length_map] at hb
  obtain ⟨x0, x1, x2⟩ := hbk.c3
  generalize F.length = n at hs x0 hb
  have k1 : decide ((60 : Int) ≤ (n : Int)) = b := by rw [← hb]; exact decide_eq_decide.2 (by omega)
  clear hF hbk hb
  go_enter Tryd.func66, Tryd.ntmps66
  go_wp2
  go_ret
  exact ⟨rfl, rfl⟩
set_option maxRecDepth 100000 in
theorem bhas_any (i : Int) (w : World) (h : BagAt H w O g fs ks lost) {b : Bool} (hb : decide (0 ≤ i ∧ i < (fs.length : Int)) = b) : Calls Tryd.prog 67 #[.pointer (some ⟨g, 0, none⟩), .int .i64 i] w fun e w' => e = .returned (.bool b) ∧ w = w' := by
  obtain ⟨-, -, -, v, mb, F, hbk, -, -, hF, rfl⟩ := h
  obtain ⟨A, c, rfl, hs⟩ := own_sl hF.row
  rw [List.length_map] at hb
  obtain ⟨x0, x1, x2⟩ := hbk.c3
  generalize F.length = n at hs x0 hb
  clear hF hbk
  by_cases h0 : 0 ≤ i
  · have k0 : decide (0 ≤ i) = true := decide_eq_true h0
    have k1 : decide (i < (n : Int)) = b := by rw [← hb]; exact decide_eq_decide.2 (by omega)
    clear hb
    go_enter Tryd.func67, Tryd.ntmps67
    go_wp2
    go_ret
    exact ⟨rfl, rfl⟩
  · have k0 : decide (0 ≤ i) = false := decide_eq_false h0
    have k1 : b = false := by rw [← hb]; exact decide_eq_false (by omega)
    subst k1
    clear hb
    go_enter Tryd.func67, Tryd.ntmps67
    go_wp2
    go_ret
    exact ⟨rfl, rfl⟩
end
end Go.Proofs.YtciolppoanfiaaaDoor
