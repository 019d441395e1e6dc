import Derived.Test.YtciolppoanfiaaaDoorXRange
import Derived.Test.YtciolppoanfiaaaDoorPWire
import Derived.Deep.RegionLaw
import Derived.Deep.RegionWith
import Derived.Deep.RegionHeld3
namespace Go.Proofs.YtciolppoanfiaaaDoor
open Go.RowKit Go.Shelf
attribute [local go_sem] Oper.semAt_some

/-- an entry whose bytes lie in a block of bytes -/
def U8 (w : World) (e : Ent) : Prop := Bytes w (.slice e.A e.l.length e.c) e.l ∧ ∀ ad, e.A = some ad → 0 < e.l.length → ∃ cs fr, w.heap[ad.block]? = some (Obj.cells cs 5 fr)
/-- what a round of the loop keeps: all below n₀ but block gm, and all blocks of bytes -/
def Kw (n₀ gm : Nat) (A B : World) : Prop := A.heap.size ≤ B.heap.size ∧ (∀ k, k < n₀ → k ≠ gm → B.heap[k]? = A.heap[k]?) ∧ ∀ (k : Nat) (cs : Array Value) (fr : Nat × Nat), A.heap[k]? = some (Obj.cells cs 5 fr) → B.heap[k]? = A.heap[k]?
theorem Kw.trans {n₀ gm : Nat} {A B C : World} (h : Kw n₀ gm A B) (k : Kw n₀ gm B C) : Kw n₀ gm A C :=
  ⟨Nat.le_trans h.1 k.1, fun i hi hg => (k.2.1 i hi hg).trans (h.2.1 i hi hg), fun i cs fr hi => by have := h.2.2 i cs fr hi; exact (k.2.2 i cs fr (this.trans hi)).trans this⟩
theorem Kw.of_grown {n₀ gm : Nat} {A B : World} {row : Option Nat} (h : A.grownBy B row) (hn : n₀ ≤ A.heap.size) (hr : ∀ r, row = some r → (n₀ ≤ r ∨ r = gm) ∧ ∀ cs fr, A.heap[r]? ≠ some (Obj.cells cs 5 fr)) : Kw n₀ gm A B :=
  ⟨h.size, fun k hk hg => h.block k (by omega) (fun e => by rcases (hr k e.symm).1 with h | h <;> omega), fun k cs fr hk => h.block k (Array.getElem?_eq_some_iff.1 hk).1 (fun e => (hr k e.symm).2 cs fr hk)⟩
theorem U8.keep {w w' : World} {e : Ent} (h : U8 w e) (hk : ∀ (k : Nat) (cs : Array Value) (fr : Nat × Nat), w.heap[k]? = some (Obj.cells cs 5 fr) → w'.heap[k]? = w.heap[k]?) : U8 w' e := by
  obtain ⟨⟨lo, hi, A, c, he, hs⟩, h2⟩ := h
  injection he with e1 e2 e3
  subst e1 e3
  refine ⟨⟨lo, hi, e.A, e.c, rfl, hs.len, hs.cap, hs.max, fun hn => ?_⟩, fun ad ha hn => ?_⟩
  · obtain ⟨ad, ha, h3, h4, hc⟩ := hs.at_ hn
    obtain ⟨cs, fr, hb⟩ := h2 ad ha hn
    exact ⟨ad, ha, h3, h4, fun j u hu => (World.cell?_of_block (by rw [block_of_add]; exact hk _ cs fr hb)).trans (hc j u hu)⟩
  · obtain ⟨cs, fr, hb⟩ := h2 ad ha hn
    exact ⟨cs, fr, (hk _ cs fr hb).trans hb⟩
theorem U8.grown {w w' : World} {e : Ent} {row : Option Nat} (h : U8 w e) (hg : w.grownBy w' row) (hr : ∀ r, row = some r → ∀ cs fr, w.heap[r]? ≠ some (Obj.cells cs 5 fr)) : U8 w' e :=
  h.keep fun k cs fr hk => hg.block k (Array.getElem?_eq_some_iff.1 hk).1 (fun e => hr k e.symm cs fr hk)
theorem U8.own {w : World} {e : Ent} {base n : Nat} (h : w.ownsRow base 5 1 (.slice e.A e.l.length e.c) n (e.l.map bv)) : U8 w e := by
  refine ⟨own_bytes h, fun ad ha hn => ?_⟩
  rcases h.2 with ⟨h1, _⟩ | ⟨g, cap, cur, h1, _, hh, _⟩
  · injection h1 with h1 h2 h3
    omega
  · injection h1 with h1 h2 h3
    rw [ha] at h1
    cases h1
    exact ⟨_, _, hh⟩
theorem Rdr.keepKw {w w' : World} {g lo hi n₀ gm : Nat} {l : List UInt8} {s : Bool} (h : Rdr w g lo hi l s) (hk : Kw n₀ gm w w') (hg : g < n₀) (hgm : g ≠ gm) (hh : hi ≤ n₀) (hm : gm < lo ∨ hi ≤ gm) : Rdr w' g lo hi l s := by
  obtain ⟨h1, v, h2, A, c, rfl, h3⟩ := h
  exact ⟨h1, _, (hk.2.1 g hg hgm).trans h2, A, c, rfl, h3.keep fun p a b => World.cell?_of_block (hk.2.1 _ (by omega) (by omega))⟩
theorem Rdr.grownN {w w' : World} {g lo hi : Nat} {l : List UInt8} {s : Bool} {row : Option Nat} (h : Rdr w g lo hi l s) (hg : w.grownBy w' row) (hr : ∀ r, row = some r → r ≠ g ∧ (r < lo ∨ hi ≤ r)) : Rdr w' g lo hi l s := by
  obtain ⟨h1, v, h2, A, c, rfl, h3⟩ := h
  exact ⟨h1, _, h2.grown hg (fun e => (hr g e.symm).1 rfl), A, c, rfl, h3.grown (by decide) hg (fun r e => (hr r e).2)⟩
theorem Rdr.alloc {w : World} {g lo hi : Nat} {l : List UInt8} {s : Bool} (h : Rdr w g lo hi l s) (o : Obj) : Rdr (w.alloc o) g lo hi l s := by
  obtain ⟨h1, v, h2, h3⟩ := h
  exact ⟨h1, v, h2.alloc o, h3.alloc o⟩
theorem Rdr.drew {w : World} {g lo hi : Nat} {l : List UInt8} {s : Bool} (h : Rdr w g lo hi l s) : Rdr w.drew g lo hi l s := by
  obtain ⟨h1, v, h2, h3⟩ := h
  exact ⟨h1, v, h2, h3.drewN 1⟩
theorem grownBy_drew {w w' : World} {row : Option Nat} (h : w.drew.grownBy w' row) : w.grownBy w' row := ⟨h.os, h.tape, h.output, h.size, h.block⟩

theorem grownBy_alloc {w w' : World} {row : Option Nat} {o : Obj} (h : (w.alloc o).grownBy w' row) : w.grownBy w' row :=
  ⟨h.os, h.tape, h.output, Nat.le_trans (by simp) h.size, fun k hk hr => (h.block k (by simp; omega) hr).trans (Below.heap_alloc w o k hk)⟩
theorem only_alloc {a w : World} {row : Option Nat} (h : a.grownBy w row) (o : Obj) : a.grownBy (w.alloc o) row :=
  ⟨h.os, h.tape, h.output, Nat.le_trans h.size (by simp), fun i hi hne => (Below.heap_alloc w o i (Nat.lt_of_lt_of_le hi h.size)).trans (h.block i hi hne)⟩
theorem only_far {a w : World} {row : Option Nat} (h : a.grownBy w row) {p : Addr} (hp : a.heap.size ≤ p.block) (u : Value) : a.grownBy (w.setCell p u) row :=
  ⟨h.os, h.tape, h.output, by simpa [World.setCell] using h.size, fun i hi hne => (Below.heap_setCell w p u i (by omega)).trans (h.block i hi hne)⟩
theorem cell_far3 {w : World} {b fb : Nat} {v : Value} (h : w.cell? ⟨fb, 0, none⟩ = some v) (hne : b ≠ fb) (u0 u1 u2 : Value) : (((w.setCell ⟨b, 0, none⟩ u0).setCell ⟨b, 1, none⟩ u1).setCell ⟨b, 2, none⟩ u2).cell? ⟨fb, 0, none⟩ = some v := by
  have e : ∀ (w : World) i u, (w.setCell ⟨b, i, none⟩ u).cell? ⟨fb, 0, none⟩ = w.cell? ⟨fb, 0, none⟩ := fun w i u => World.cell?_setCell_other w _ _ u (fun h => hne (by injection h))
  rw [e, e, e]
  exact h
theorem cell_any4 {w : World} {fb : Nat} {t : TypeId} {v : Value} (h : Blk w fb t #[v]) (o : Obj) : (w.alloc o).cell? ⟨fb, 0, none⟩ = some v := (h.alloc o).cell 0
theorem Rdr.not_u8 {w : World} {g lo hi : Nat} {l : List UInt8} {s : Bool} (h : Rdr w g lo hi l s) : ∀ cs fr, w.heap[g]? ≠ some (Obj.cells cs 5 fr) := by
  obtain ⟨_, v, h2, _⟩ := h
  intro cs fr e
  unfold Blk at h2
  rw [h2] at e
  cases e
theorem Blk.not_u8 {w : World} {g : Nat} {cs : Array Value} (h : Blk w g 85 cs) : ∀ cs fr, w.heap[g]? ≠ some (Obj.cells cs 5 fr) := by
  intro cs fr e
  unfold Blk at h
  rw [h] at e
  cases e
theorem ent_set3 {w : World} {b : Nat} {a0 a1 a2 : Value} (h : Blk w b 85 #[a0, a1, a2]) (u0 u1 u2 : Value) :
    w.grownBy (((w.setCell ⟨b, 0, none⟩ u0).setCell ⟨b, 1, none⟩ u1).setCell ⟨b, 2, none⟩ u2) (some b) ∧ Blk (((w.setCell ⟨b, 0, none⟩ u0).setCell ⟨b, 1, none⟩ u1).setCell ⟨b, 2, none⟩ u2) b 85 #[u0, u1, u2] :=
  ⟨only_setCell (only_setCell (only_setCell (World.grownBy.refl w _) 0 u0) 1 u1) 2 u2, ((h.set_ 0 u0).set_ 1 u1).set_ 2 u2⟩
/-- an Ent out of what was read -/
def entOf (s : RdSt) (A : Option Addr) (c : Nat) : Ent := ⟨rdV 8 s, (rdV 1 (rdN 8 s) : Int), A, c, rbV (rdN 1 (rdN 8 s))⟩
theorem entOf_key (s : RdSt) (A : Option Addr) (c : Nat) : (entOf s A c).key = entV s := rfl

theorem rdnum (g lo hi n : Nat) (s : RdSt) (w : World) (h : Rdr w g lo hi s.1 s.2) (h1 : 1 ≤ n) (h8 : n ≤ 8) :
    Calls Tryd.prog 51 #[.pointer (some ⟨g, 0, none⟩), .int .i64 (n : Int)] w fun e w' =>
      e = .returned (.int .u64 (rdV n s : Nat)) ∧ Rdr w' g lo hi (rdN n s).1 (rdN n s).2 ∧ w.grownBy w' (some g) := rnum_any g lo hi n s.1 s.2 w h h1 h8
theorem rdbytes (g lo hi : Nat) (s : RdSt) (w : World) (h : Rdr w g lo hi s.1 s.2) (hl : s.1.length ≤ 100000) :
    Calls Tryd.prog 78 #[.pointer (some ⟨g, 0, none⟩)] w fun e w' =>
      ∃ A c, e = .returned (.slice A (rbV s).length c) ∧ w'.ownsRow w.heap.size 5 1 (.slice A (rbV s).length c) (rbV s).length ((rbV s).map bv) ∧ Rdr w' g lo hi (rbN s).1 (rbN s).2 ∧ w.grownBy w' (some g) := by
  refine (rbytes_any g lo hi s.1 s.2 w h hl).mono ?_
  rintro e w' ⟨v, rfl, hown, hr, hg⟩
  obtain ⟨A, c, rfl, -⟩ := own_sl hown
  exact ⟨A, c, rfl, hown, hr, hg⟩
set_option maxRecDepth 100000 in
set_option maxHeartbeats 4000000 in
theorem entries1_in (m l g lo hi fb n₀ gm : Nat) (s0 : RdSt) (hm : 1 ≤ m) (hg : g < n₀) (hgm : g ≠ gm) (hfb : fb < n₀) (hfm : fb ≠ gm) (hfg : fb ≠ g) (hh : hi ≤ n₀) (hmo : gm < lo ∨ hi ≤ gm) (hlen : s0.1.length ≤ 100000)
    (J : List Ent → World → Prop) (W : World) (hJ : AbidesAt g J) (hnW : n₀ ≤ W.heap.size)
    (hY : ∀ pre x W1, J pre W1 → pre.length < 256 → YieldAt Fence.wide (m - 1) Tryd.prog l #[x.v] W1 fun e W' => e = .returned (.bool true) ∧ J (pre ++ [x]) W' ∧ Kw n₀ gm W1 W')
    (Bf : Blk W fb 78 #[.pointer (some ⟨g, 0, none⟩)]) (hr : Rdr W g lo hi s0.1 s0.2) (h0 : J [] W) :
    CallsIn Fence.wide m Tryd.prog 88 #[.func (.yield l) #[] #[], .pointer (some ⟨fb, 0, none⟩)] W fun e W' => (∃ v, e = .returned v) ∧
      ∃ xs, (∃ st : RdSt, Rdr W' g lo hi st.1 st.2 ∧ decE (rdV 1 s0) (rdN 1 s0) = (xs.map Ent.key, st) ∧ ∀ x ∈ xs, U8 W' x) ∧ J xs W' := by
  have hN := rdnum g lo hi 1 s0 W hr (by omega) (by omega)
  have hl1 := rdN_len 1 s0
  have hv1 := rdV_lt1 s0
  obtain ⟨s1, hs1⟩ : ∃ s1, rdN 1 s0 = s1 := ⟨_, rfl⟩
  obtain ⟨N0, hN0⟩ : ∃ N0, rdV 1 s0 = N0 := ⟨_, rfl⟩
  rw [hs1] at hN hl1 ⊢
  rw [hN0] at hN hv1 ⊢
  clear hs1 hN0
  refine callsIn_of_wp Tryd.func88 rfl trivial ?_ rfl
  simp only [Tryd.ntmps88, List.size_toArray, List.length_cons, List.length_nil, Nat.reduceAdd, Nat.reduceSub, Array.replicate_succ, Array.replicate_zero, List.push_toArray, List.append_toArray, List.nil_append, List.cons_append]
  have x0 := Bf.cell 0
  simp only [List.getElem?_toArray, List.getElem?_cons_zero] at x0
  refine wpIn_wide.2 ?_
  go_wp2_with fail
  refine hN.mono ?_
  rintro e w1 ⟨rfl, hr1, hg1⟩
  have Bf1 := Bf.grown hg1 (fun e => hfg (by injection e))
  have hz1 := hg1.size
  have hJ1 := hJ [] W w1 _ h0 hg1 (fun r e => by cases e; rfl)
  clear hN x0 Bf hr h0 hg1
  go_wp2
  refine (wpIn_wide (n := m)).1 ?_
  gi_loopw [6] (fun i wr => ∃ (k j : Nat) (pre : List Ent) (s : RdSt), k + j = N0 ∧ pre.length = k ∧ i = .int .u64 k ∧ J pre wr ∧ Rdr wr g lo hi s.1 s.2 ∧ s.1.length ≤ 100000 ∧ decE N0 s1 = (pre.map Ent.key ++ (decE j s).1, (decE j s).2) ∧ (∀ x ∈ pre, U8 wr x) ∧ Blk wr fb 78 #[.pointer (some ⟨g, 0, none⟩)] ∧ n₀ ≤ wr.heap.size) (fun i _ => N0 - (intOf i).toNat)
  case atStart => exact ⟨0, N0, [], s1, by omega, rfl, rfl, hJ1, hr1, by omega, by simp, fun x hx => by simp at hx, Bf1, by omega⟩
  case round =>
    obtain ⟨k, j, pre, s, hkj, hpl, rfl, hJr, hrr, hls, hdec, hu, Bfr, hnr⟩ := hrel
    clear hJ1 hr1 Bf1 hl1
    have HDEC := Lib.hid hdec
    have HPL := Lib.hid hpl
    clear hpl
    have HU := Lib.hid hu
    clear hdec hu
    have x0 := Bfr.cell 0
    simp only [List.getElem?_toArray, List.getElem?_cons_zero] at x0
    cases j with
    | zero =>
      gi_wp2
      go_end0
      exact ⟨⟨_, rfl⟩, pre, ⟨s, hrr, by rw [HDEC.out]; simp [decE], HU.out⟩, hJr⟩
    | succ j =>
      have hlt : k < N0 := by omega
      gi_wp2_with fail
      refine wpIn_wide.2 ?_
      have hv3 := rdV_lt1 (rdN 8 s)
      have hl3 : (rdN 1 (rdN 8 s)).1.length ≤ 100000 := Nat.le_trans (Nat.le_trans (rdN_len _ _) (rdN_len _ _)) hls
      have hwr : IntKind.i64.wrap ((rdV 1 (rdN 8 s) : Nat) : Int) = ((rdV 1 (rdN 8 s) : Nat) : Int) := by rw [IntKind.wrap_i64]; omega
      have xa0 := (Bfr.alloc (Obj.cells #[.int .u64 0, .int .i64 0, .slice none 0 0] 85)).cell 0
      simp only [List.getElem?_toArray, List.getElem?_cons_zero] at xa0
      go_cut [3] (fun v wc => ∃ gb A c, v = .pointer (some ⟨gb, 0, none⟩) ∧ wr.heap.size ≤ gb ∧ Blk wc gb 85 #[.int .u64 (rdV 8 s : Nat), .int .i64 (rdV 1 (rdN 8 s) : Nat), .slice A (rbV (rdN 1 (rdN 8 s))).length c] ∧ U8 wc (entOf s A c) ∧ Rdr wc g lo hi (entN s).1 (entN s).2 ∧ wr.grownBy wc (some g))
      case first =>
        go_region_held3 (fun W' => W'.cell? ⟨fb, 0, none⟩ = some (.pointer (some ⟨g, 0, none⟩))) (first | exact x0 | exact xa0 | exact y2 | exact ya2 | exact y3 | exact ya3 | exact y4 | exact ya4 | exact cell_far3 y4 (by omega) _ _ _ | exact cell_any4 Bf4 _ | go_keep) (first
          | (go_at_call 78; refine (rdbytes g lo hi (rdN 1 (rdN 8 s)) _ (by first | exact hr3 | exact hr3.drew | exact hr3.alloc _ | exact (hr3.alloc _).drew) hl3).mono ?_; rintro e w4 ⟨A, c, rfl, hown, hr4, hg4⟩; have hg4' : w3.grownBy w4 (some g) := (by first | exact hg4 | exact grownBy_drew hg4 | exact grownBy_alloc hg4 | exact grownBy_alloc (grownBy_drew hg4)); have Bf4 := Bf3.grown hg4' (fun e => hfg (by injection e)); have y4 := Bf4.cell 0; have ya4 := (Bf4.alloc (Obj.cells #[.int .u64 0, .int .i64 0, .slice none 0 0] 85)).cell 0; simp only [List.getElem?_toArray, List.getElem?_cons_zero] at y4 ya4; have zz4 := Nat.le_trans zz3 hg4'.size; first | (have Bq := Blk.grown (by first | exact Bq | exact Bq.drew) hg4 (fun e => by injection e; omega); obtain ⟨b0, b1, b2⟩ := Bq.c3; have f0 := Bq.frozen 0; have f1 := Bq.frozen 1; have f2 := Bq.frozen 2) | (have Bq := Blk.grown (w := w3.alloc (Obj.cells #[.int .u64 0, .int .i64 0, .slice none 0 0] 85)) (Blk.new w3 85 #[.int .u64 0, .int .i64 0, .slice none 0 0]) (by first | exact hg4 | exact grownBy_drew hg4) (fun e => by injection e; omega); obtain ⟨b0, b1, b2⟩ := Bq.c3; have f0 := Bq.frozen 0; have f1 := Bq.frozen 1; have f2 := Bq.frozen 2) | skip)
          | (go_at_call 51; have _g := hr2; refine (rdnum g lo hi 1 (rdN 8 s) _ (by first | exact hr2 | exact hr2.drew | exact hr2.alloc _ | exact (hr2.alloc _).drew) (by omega) (by omega)).mono ?_; rintro e w3 ⟨rfl, hr3, hg3⟩; have hg3' : w2.grownBy w3 (some g) := (by first | exact hg3 | exact grownBy_drew hg3 | exact grownBy_alloc hg3 | exact grownBy_alloc (grownBy_drew hg3)); have Bf3 := Bf2.grown hg3' (fun e => hfg (by injection e)); have y3 := Bf3.cell 0; have ya3 := (Bf3.alloc (Obj.cells #[.int .u64 0, .int .i64 0, .slice none 0 0] 85)).cell 0; simp only [List.getElem?_toArray, List.getElem?_cons_zero] at y3 ya3; have zz3 := Nat.le_trans zz2 hg3'.size; first | (have Bq := Blk.grown (by first | exact Bq | exact Bq.drew) hg3 (fun e => by injection e; omega); obtain ⟨b0, b1, b2⟩ := Bq.c3; have f0 := Bq.frozen 0; have f1 := Bq.frozen 1; have f2 := Bq.frozen 2) | (have Bq := Blk.grown (w := w2.alloc (Obj.cells #[.int .u64 0, .int .i64 0, .slice none 0 0] 85)) (Blk.new w2 85 #[.int .u64 0, .int .i64 0, .slice none 0 0]) (by first | exact hg3 | exact grownBy_drew hg3) (fun e => by injection e; omega); obtain ⟨b0, b1, b2⟩ := Bq.c3; have f0 := Bq.frozen 0; have f1 := Bq.frozen 1; have f2 := Bq.frozen 2) | skip)
          | (go_at_call 51; refine (rdnum g lo hi 8 s _ (by first | exact hrr | exact hrr.drew | exact hrr.alloc _ | exact (hrr.alloc _).drew) (by omega) (by omega)).mono ?_; rintro e w2 ⟨rfl, hr2, hg2⟩; have hg2' : wr.grownBy w2 (some g) := (by first | exact hg2 | exact grownBy_drew hg2 | exact grownBy_alloc hg2 | exact grownBy_alloc (grownBy_drew hg2)); have Bf2 := Bfr.grown hg2' (fun e => hfg (by injection e)); have y2 := Bf2.cell 0; have ya2 := (Bf2.alloc (Obj.cells #[.int .u64 0, .int .i64 0, .slice none 0 0] 85)).cell 0; simp only [List.getElem?_toArray, List.getElem?_cons_zero] at y2 ya2; have zz2 := Nat.le_trans hnr hg2'.size; first | (have Bq := Blk.grown (by first | exact Bq | exact Bq.drew) hg2 (fun e => by injection e; omega); obtain ⟨b0, b1, b2⟩ := Bq.c3; have f0 := Bq.frozen 0; have f1 := Bq.frozen 1; have f2 := Bq.frozen 2) | (have Bq := Blk.grown (w := wr.alloc (Obj.cells #[.int .u64 0, .int .i64 0, .slice none 0 0] 85)) (Blk.new wr 85 #[.int .u64 0, .int .i64 0, .slice none 0 0]) (by first | exact hg2 | exact grownBy_drew hg2) (fun e => by injection e; omega); obtain ⟨b0, b1, b2⟩ := Bq.c3; have f0 := Bq.frozen 0; have f1 := Bq.frozen 1; have f2 := Bq.frozen 2) | skip))
        all_goals
          have hG := only_trans (only_trans hg2' hg3') hg4'
          have hux := U8.own (e := entOf s A c) hown
          have q2 := hg2'.size
          have q3 := hg3'.size
          have q4 := hg4'.size
          go_wp2
          go_meet
        · have hal := only_alloc (World.grownBy.refl w4 none) (Obj.cells #[Value.int .u64 (rdV 8 s : Nat), .int .i64 (rdV 1 (rdN 8 s) : Nat), .slice A (rbV (rdN 1 (rdN 8 s))).length c] 85)
          exact ⟨w4.heap.size, A, c, rfl, by omega, Blk.new _ _ _, hux.grown hal (fun r e => by cases e), hr4.alloc _, only_alloc hG _⟩
        all_goals
          obtain ⟨h3, hb3⟩ := ent_set3 Bq (.int .u64 (rdV 8 s : Nat)) (.int .i64 (rdV 1 (rdN 8 s) : Nat)) (.slice A (rbV (rdN 1 (rdN 8 s))).length c)
          have hnu := Bq.not_u8
          refine ⟨_, A, c, rfl, ?_, hb3, hux.grown h3 (fun r e => by cases e; exact hnu), hr4.grownN h3 (fun r e => by cases e; omega), only_far (only_far (only_far hG ?_ _) ?_ _) ?_ _⟩
          all_goals
            first | omega | (simp; done) | (simp; omega)
      case rest =>
        obtain ⟨gb, A, c, rfl, hgb, Bx, hux, hrx, hgx⟩ := hcut
        have Bfx := Bfr.grown hgx (fun e => hfg (by injection e))
        have hJx := hJ pre wr wc _ hJr hgx (fun r e => by cases e; rfl)
        have hnx := Nat.le_trans hnr hgx.size
        have hel := entN_len s
        have hnu := hrr.not_u8
        have hU : ∀ x ∈ pre, U8 wc x := fun x hx => (HU.out x hx).grown hgx (fun r e => by cases e; exact hnu)
        have HU2 := Lib.hid hU
        have z0 := Bfx.cell 0
        simp only [List.getElem?_toArray, List.getElem?_cons_zero] at z0
        obtain ⟨b0, b1, b2⟩ := Bx.c3
        have hEnd := rend_any g lo hi _ _ wc hrx
        have HE := Lib.hid hEnd
        clear hU hEnd x0 xa0 Bfr hrr hJr hnr hgx hwr
        cases hsh : (entN s).2 with
        | true =>
          have HSH := Lib.hid hsh
          have he := HE.out
          rw [hsh] at he
          clear hsh
          go_wp2_with fail
          refine wpIn_wide.2 ?_
          go_wp2_with fail
          refine he.mono ?_
          rintro e _ ⟨rfl, rfl⟩
          go_wp2
          refine bodyPost_ret (results_none rfl _ _ _) rfl ?_
          exact ⟨⟨_, rfl⟩, pre, ⟨entN s, hrx, by rw [HDEC.out, decE_stop HSH.out]; simp, HU2.out⟩, hJx⟩
        | false =>
          have HSH := Lib.hid hsh
          have he := HE.out
          rw [hsh] at he
          clear hsh
          have hne : ((endE false (entN s).1 : Nat) : Int) ≠ 10 := by unfold endE; rw [if_neg (by simp)]; split <;> simp
          obtain ⟨E, hE⟩ : ∃ E, endE false (entN s).1 = E := ⟨_, rfl⟩
          rw [hE] at he hne
          have hne2 : ((E : Int) == 10) = false := by simpa using hne
          clear hE hne
          obtain ⟨fn, tmps, assign, body, hy, hR⟩ := hY pre (entOf s A c) wc hJx (by have := HPL.out; omega)
          simp only [Ent.v, entOf] at hy hR
          go_wp2_with fail
          gi_wp2_with (first | (refine ⟨trivial, ?_⟩; gi_at_call 80; refine (callsIn_wide.2 he).mono ?_; rintro e _ ⟨rfl, rfl⟩) | (gi_at_call 80; refine (callsIn_wide.2 he).mono ?_; rintro e _ ⟨rfl, rfl⟩))
          refine hR.mono ?_
          rintro e W3 ⟨rfl, hJ3, hk3⟩
          gi_wp2
          go_roundw
          case rel =>
            refine ⟨k + 1, j, pre ++ [entOf s A c], entN s, by omega, by simp [HPL.out], by go_num, hJ3, hrx.keepKw hk3 hg hgm hh hmo, by omega, ?_, fun x hx => ?_, (hk3.2.1 fb hfb hfm).trans Bfx, Nat.le_trans hnx hk3.1⟩
            · rw [HDEC.out, decE_go HSH.out]
              simp [entOf_key]
            · rcases List.mem_append.1 hx with h | h
              · exact (HU2.out x h).keep hk3.2.2
              · rw [List.mem_singleton.1 h]
                exact hux.keep hk3.2.2
          case measure => simp [intOf]; omega
end Go.Proofs.YtciolppoanfiaaaDoor
