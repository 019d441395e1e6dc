import Derived.Test.YtciolppoanfiaaaDoorZBagD
/- The document's bag in memory; in, out, Drop, Twice. -/
namespace Go.Proofs.YtciolppoanfiaaaDoor
open Go.RowKit
structure RF where
  A : Option Addr
  c : Nat
  l : List UInt8
def RF.v (f : RF) : Value := .slice f.A f.l.length f.c
def ccells : List (Int × Int) → List Value
  | [] => []
  | c :: cs => .int .i64 c.1 :: .int .i64 c.2 :: ccells cs
theorem ccells_len (cs : List (Int × Int)) : (ccells cs).length = cs.length * 2 := by
  induction cs with
  | nil => rfl
  | cons c cs ih => simp only [ccells, List.length_cons, ih]; omega
theorem ccells_append (es fs : List (Int × Int)) : ccells (es ++ fs) = ccells es ++ ccells fs := by
  induction es with
  | nil => rfl
  | cons e es ih => simp only [ccells, List.cons_append, ih]
theorem ccells_at (es : List (Int × Int)) (k : Nat) (e : Int × Int) (h : es[k]? = some e) : (ccells es)[k * 2]? = some (.int .i64 e.1) ∧ (ccells es)[k * 2 + 1]? = some (.int .i64 e.2) := by
  induction k generalizing es with
  | zero =>
    cases es with
    | nil => simp at h
    | cons x es =>
      simp at h
      subst h
      exact ⟨rfl, rfl⟩
  | succ k ih =>
    cases es with
    | nil => simp at h
    | cons x es =>
      have := ih es (by simpa using h)
      rw [Nat.succ_mul]
      simpa only [ccells, List.getElem?_cons_succ] using this
theorem erase_snoc {α : Type} {l : List α} {i k : Nat} {x : α} (h : l[k]? = some x) : (l.take (k + 1)).eraseIdx i = (l.take k).eraseIdx i ++ (if k = i then [] else [x]) := by
  obtain ⟨h1, h2⟩ := List.getElem?_eq_some_iff.1 h
  have hl : (l.take k).length = k := by rw [List.length_take]; omega
  rw [List.take_succ_eq_append_getElem h1, h2]
  by_cases h3 : i < k
  · rw [List.eraseIdx_append_of_lt_length (by omega), if_neg (by omega)]
  · rw [List.eraseIdx_append_of_length_le (by omega), hl]
    by_cases h4 : k = i
    · subst h4
      rw [if_pos rfl, Nat.sub_self, List.append_nil, List.eraseIdx_of_length_le (l := l.take k) (by omega)]
      simp
    · rw [if_neg h4, List.eraseIdx_of_length_le (by simp; omega), List.eraseIdx_of_length_le (by omega)]
/-- a slice that reads, its block one of S's and not g -/
def Lie (w : World) (S : Nat → Prop) (g size : Nat) (A : Option Addr) (n c : Nat) (xs : List Value) : Prop := Sl w 0 w.heap.size size A n c xs ∧ ∀ ad, A = some ad → 0 < n → S ad.block ∧ ad.block ≠ g
theorem Lie.turn {w w1 : World} {S S' : Nat → Prop} {g size n c : Nat} {A : Option Addr} {xs : List Value} (h : Lie w S g size A n c xs) (hs : w.heap.size ≤ w1.heap.size) (hS : ∀ b, S b → S' b) (hb : ∀ b, S b → b ≠ g → w1.heap[b]? = w.heap[b]?) : Lie w1 S' g size A n c xs :=
  ⟨⟨h.1.len, h.1.cap, h.1.max, fun hn => by
    obtain ⟨ad, e, h1, h2, hc⟩ := h.1.at_ hn
    obtain ⟨k1, k2⟩ := h.2 ad e hn
    exact ⟨ad, e, h1, by omega, fun j u hu => (World.cell?_of_block (by rw [block_of_add]; exact hb _ k1 k2)).trans (hc j u hu)⟩⟩, fun ad e hn => ⟨hS _ (h.2 ad e hn).1, (h.2 ad e hn).2⟩⟩
/-- what the call has made -/
theorem Lie.own {w : World} {S : Nat → Prop} {g size n c base : Nat} {e : TypeId} {A : Option Addr} {xs : List Value} (h : w.ownsRow base e size (.slice A n c) n xs) (hS : ∀ b, base ≤ b → b < w.heap.size → S b) (hg : g < base) : Lie w S g size A n c xs := by
  obtain ⟨A', c', hv, hs⟩ := own_sl h
  injection hv with e1 e2 e3
  subst e1 e3
  refine ⟨hs.wide (Nat.zero_le _) (Nat.le_refl _), fun ad e hn => ?_⟩
  obtain ⟨ad', e', h1, h2, -⟩ := hs.at_ hn
  rw [e] at e'
  injection e' with e'
  subst e'
  exact ⟨hS _ h1 h2, by omega⟩
structure RB (w : World) (S : Nat → Prop) (g : Nat) (F : List RF) (cs : List (Int × Int)) (lost : Nat) : Prop where
  top : ∀ b, S b → b < w.heap.size
  gS : S g
  st : ∃ Af cf Ac cc, Blk w g 60 #[.slice Af F.length cf, .slice Ac cs.length cc, .int .i64 (lost : Int)] ∧ Lie w S g 1 Af F.length cf (F.map RF.v) ∧ Lie w S g 2 Ac cs.length cc (ccells cs) ∧ ∀ f ∈ F, Lie w S g 1 f.A f.l.length f.c (f.l.map bv)
def GO (g : Nat) (k : Nat) : Prop := k = g
section
variable {w w1 : World} {S S' : Nat → Prop} {g : Nat} {F : List RF} {cs : List (Int × Int)} {lost : Nat}
theorem RB.keep (h : RB w S g F cs lost) (hs : w.heap.size ≤ w1.heap.size) (hb : ∀ b, S b → w1.heap[b]? = w.heap[b]?) : RB w1 S g F cs lost := by
  obtain ⟨h1, h2, Af, cf, Ac, cc, h3, h4, h5, h6⟩ := h
  exact ⟨fun b hb => Nat.lt_of_lt_of_le (h1 b hb) hs, h2, Af, cf, Ac, cc, (hb g h2).trans h3, h4.turn hs (fun _ h => h) (fun b h _ => hb b h), h5.turn hs (fun _ h => h) (fun b h _ => hb b h), fun f hf => (h6 f hf).turn hs (fun _ h => h) (fun b h _ => hb b h)⟩
theorem RB.after (h : RB w S g F cs lost) (hb : Below w.heap.size w w1) : RB w1 S g F cs lost := h.keep hb.size fun b hS => hb.block b (h.top b hS)
theorem RB.drewN (h : RB w S g F cs lost) (q : Nat) : RB (w.drewN q) S g F cs lost := h.keep (Nat.le_refl _) fun _ _ => rfl
theorem RB.alloc (h : RB w S g F cs lost) (o : Obj) : RB (w.alloc o) S g F cs lost := h.keep (by simp) fun b hS => Below.heap_alloc w o b (h.top b hS)
theorem RB.other {O : Nat → Prop} (h : RB w S g F cs lost) (hc : Chg O w w1) (hd : ∀ k, S k → ¬ O k) : RB w1 S g F cs lost := h.keep hc.size fun b hS => hc.block b (h.top b hS) (hd b hS)
/-- the bag's own step: g is written, the rest is new -/
theorem RB.turn (h : RB w S g F cs lost) (hc : Chg (GO g) w w1) {F' : List RF} {cs' : List (Int × Int)} {lost' : Nat} {Af : Option Addr} {cf : Nat} {Ac : Option Addr} {cc : Nat}
    (hb : Blk w1 g 60 #[.slice Af F'.length cf, .slice Ac cs'.length cc, .int .i64 (lost' : Int)])
    (hf : Lie w1 (fun b => S b ∨ (w.heap.size ≤ b ∧ b < w1.heap.size)) g 1 Af F'.length cf (F'.map RF.v)) (hcs : Lie w1 (fun b => S b ∨ (w.heap.size ≤ b ∧ b < w1.heap.size)) g 2 Ac cs'.length cc (ccells cs'))
    (hfr : ∀ f ∈ F', f ∈ F ∨ Lie w1 (fun b => S b ∨ (w.heap.size ≤ b ∧ b < w1.heap.size)) g 1 f.A f.l.length f.c (f.l.map bv)) : ∃ S', RB w1 S' g F' cs' lost' ∧ ∀ b, S' b → S b ∨ w.heap.size ≤ b := by
  obtain ⟨h1, h2, Af0, cf0, Ac0, cc0, h3, h4, h5, h6⟩ := h
  refine ⟨fun b => S b ∨ (w.heap.size ≤ b ∧ b < w1.heap.size), ⟨fun b hS => ?_, .inl h2, Af, cf, Ac, cc, hb, hf, hcs, fun f hm => ?_⟩, fun b hS => hS.imp id And.left⟩
  · rcases hS with hS | hS
    · exact Nat.lt_of_lt_of_le (h1 b hS) hc.size
    · exact hS.2
  · rcases hfr f hm with hm | hm
    · exact (h6 f hm).turn hc.size (fun b hS => .inl hS) fun b hS hne => hc.block b (h1 b hS) hne
    · exact hm
/-- what it had, it has in the turned world too -/
theorem RB.kept (h : RB w S g F cs lost) (hc : Chg (GO g) w w1) {size n c : Nat} {A : Option Addr} {xs : List Value} (hl : Lie w S g size A n c xs) : Lie w1 (fun b => S b ∨ (w.heap.size ≤ b ∧ b < w1.heap.size)) g size A n c xs :=
  hl.turn hc.size (fun b hS => .inl hS) fun b hS hne => hc.block b (h.top b hS) hne
theorem RB.made (h : RB w S g F cs lost) {size n c base : Nat} {e : TypeId} {A : Option Addr} {xs : List Value} (hl : w1.ownsRow base e size (.slice A n c) n xs) (hb : w.heap.size ≤ base) : Lie w1 (fun b => S b ∨ (w.heap.size ≤ b ∧ b < w1.heap.size)) g size A n c xs :=
  Lie.own hl (fun b h1 h2 => .inr ⟨Nat.le_trans hb h1, h2⟩) (Nat.lt_of_lt_of_le (h.top g h.gS) hb)
set_option maxRecDepth 100000 in
theorem rbin_any (i : Int) (w : World) (h : RB w S g F cs lost) {b : Bool} (hb : decide (0 ≤ i ∧ i < (F.length : Int)) = b) :
    Calls Tryd.prog 75 #[.pointer (some ⟨g, 0, none⟩), .int .i64 i] w fun e w' => e = .returned (.bool b) ∧ w = w' := by
  obtain ⟨-, -, Af, cf, Ac, cc, hbk, -, -, -⟩ := h
  obtain ⟨x0, x1, x2⟩ := hbk.c3
  clear hbk
  generalize F.length = n at x0 hb
  generalize cs.length = nc at x1
  by_cases h0 : 0 ≤ i
  · have k0 : decide (0 ≤ i) = true := decide_eq_true h0
    have k1 : decide (i < (n : Int)) = b := by rw [← hb]; exact decide_eq_decide.2 (by omega)
    clear hb
    go_enter Tryd.func75, Tryd.ntmps75
    go_wp2
    go_ret
    exact ⟨rfl, rfl⟩
  · have k0 : decide (0 ≤ i) = false := decide_eq_false h0
    have k1 : b = false := by rw [← hb]; exact decide_eq_false (by omega)
    subst k1
    clear hb
    go_enter Tryd.func75, Tryd.ntmps75
    go_wp2
    go_ret
    exact ⟨rfl, rfl⟩
set_option maxRecDepth 100000 in
set_option maxHeartbeats 3200000 in
theorem rbout_any (i : Nat) (w : World) (h : RB w S g F cs lost) (hi : i < F.length) (hn : F.length ≤ 1000) :
    Calls Tryd.prog 86 #[.pointer (some ⟨g, 0, none⟩), .int .i64 (i : Int)] w fun e w' => ∃ S', e = .returned (.tuple #[]) ∧ RB w' S' g (F.eraseIdx i) cs lost ∧ Chg (GO g) w w' ∧ ∀ b, S' b → S b ∨ w.heap.size ≤ b := by
  obtain ⟨i0, hi0, hz0, hz1, hz2⟩ := info_parts row_info
  have h0 := h
  obtain ⟨htop, hgS, Af, cf, Ac, cc, hbk, hlf, hlc, hfr⟩ := h
  have HH := Lib.hid h0
  have HLF := Lib.hid hlf
  have HLC := Lib.hid hlc
  obtain ⟨n, hnn⟩ : ∃ n, F.length = n := ⟨_, rfl⟩
  have HNN := Lib.hid hnn
  rw [hnn] at hbk hi hn
  have HB := Lib.hid hbk
  have hgl := hbk.lt
  clear h0 htop hgS hlf hlc hfr hnn hbk
  go_enter Tryd.func86, Tryd.ntmps86
  go_wp2
  go_loopw [4, 5] (fun v iv wr => ∃ k : Nat, k ≤ n ∧ iv = .int .i64 k ∧ wr.ownsRow w.heap.size 22 1 v ((F.take k).eraseIdx i).length (((F.take k).eraseIdx i).map RF.v) ∧ Below w.heap.size w wr) (fun _ iv _ => n - (intOf iv).toNat)
  case atStart => exact ⟨0, Nat.zero_le _, rfl, World.ownsRow_nil _ _ _ _, Below.refl _ _⟩
  case round =>
    obtain ⟨k, hk, rfl, hrow, hbr⟩ := hrel
    obtain ⟨D, d, rfl, -⟩ := own_sl hrow
    obtain ⟨x0, x1, x2⟩ := (HB.out.after hbr).c3
    have f0 := (HB.out.after hbr).frozen 0
    have hrl : ((F.take k).eraseIdx i).length ≤ 1000 := Nat.le_trans (List.length_eraseIdx_le _ _) (by rw [List.length_take]; omega)
    by_cases hlt : k < n
    · have hsl := (HLF.out.1.after (by decide) hbr)
      rw [HNN.out] at hsl
      obtain ⟨ad, u, rfl, hu, hc⟩ := hsl.nth hlt
      rw [List.getElem?_map] at hu
      obtain ⟨f, hf, rfl⟩ := Option.map_eq_some_iff.1 hu
      have HSN := Lib.hid (erase_snoc (i := i) hf)
      obtain ⟨L, hL⟩ : ∃ L, (F.take k).eraseIdx i = L := ⟨_, rfl⟩
      simp only [hL] at hrow hrl HSN ⊢
      obtain ⟨m, hm⟩ : ∃ m, L.length = m := ⟨_, rfl⟩
      simp only [hm] at hrow hrl ⊢
      have HM := Lib.hid hm
      have HROW := Lib.hid hrow
      have HBR := Lib.hid hbr
      obtain ⟨fA, fc, fl⟩ := f
      simp only [RF.v] at hc
      generalize hfn : fl.length = fn at hc
      have HFN := Lib.hid hfn
      clear hL hm hrow hbr hf hu hsl hfn
      by_cases hki : k = i
      · have hki' : ((k : Int) != (i : Int)) = false := by simp [hki]
        have HKI := Lib.hid hki
        clear hki
        go_wp2
        go_roundw
        case rel =>
          refine ⟨k + 1, by omega, by first | rfl | go_num, ?_, HBR.out⟩
          rw [HSN.out, if_pos HKI.out, List.append_nil, HM.out]
          exact HROW.out
        case measure => simp [intOf]; omega
      · have hki' : ((k : Int) != (i : Int)) = true := by simp; omega
        have HKI := Lib.hid hki
        clear hki
        go_wp2_with (at_builtin; refine wpList_app _ rfl (.tmp 18) (.tmp 26) 34 rfl w.heap.size 22 i0 _ 1 24 Tryd.underlying34 hi0 hz0 hz1 hz2 rfl (by omega) (.slice D m d) m (L.map RF.v) rfl (by exact own_after HROW.out ((Below.refl _ _).alloc (Nat.le_refl _) _)) wr.heap.size (wr.heap.size + 1) (some ⟨wr.heap.size, 0, none⟩) 1 1 [.slice fA fn fc] rfl (by exact sl_one wr (.slice fA fn fc) 22) (by intro u hu; rw [List.mem_singleton.1 hu]; rfl) (by simp only [maxLen]; omega) (by omega) (by have := HBR.out.size; simp only [alloc_size]; omega) ?_; intro v4 w4 o4 g4 a4)
        go_roundw
        case rel =>
          refine ⟨k + 1, by omega, by first | rfl | go_num, ?_, ?_⟩
          · rw [HSN.out, if_neg HKI.out, List.length_append, HM.out, List.map_append]
            have e : [RF.mk fA fc fl].map RF.v = [Value.slice fA fn fc] := by simp [RF.v, HFN.out]
            rw [e]
            exact o4
          · exact (HBR.out.alloc HBR.out.size _).grown g4 (by have := HBR.out.size; simp only [alloc_size]; omega) fun b hb => (HROW.out.lt b hb).1
        case measure => simp [intOf]; omega
    · obtain rfl : k = n := by omega
      have htk : F.take k = F := List.take_of_length_le (by rw [HNN.out]; exact Nat.le_refl _)
      rw [htk] at hrow hrl
      simp only [htk]
      have HROW := Lib.hid hrow
      have HBR := Lib.hid hbr
      obtain ⟨m, hm⟩ : ∃ m, (F.eraseIdx i).length = m := ⟨_, rfl⟩
      have hrow2 := hrow
      simp only [hm] at hrow2 hrl ⊢
      have HM := Lib.hid hm
      have HR2 := Lib.hid hrow2
      clear hrow hbr hrow2 hm htk
      go_wp2
      go_end0
      have hb4 := HB.out.after HBR.out
      have hch : Chg (GO g) w (wr.setCell ⟨g, 0, none⟩ (.slice D m d)) := (Chg.below HBR.out).same (Chg.grown (only_setCell (World.grownBy.refl wr (some g)) 0 (.slice D m d)) fun k e => by injection e with e; exact .inl e.symm)
      have hng : (Value.slice D m d).ownBlock ≠ some g := fun e => by have := (HR2.out.lt g e).1; omega
      obtain ⟨S', q1, q2⟩ := HH.out.turn (F' := F.eraseIdx i) (cs' := cs) (lost' := lost) (Af := D) (cf := d) (Ac := Ac) (cc := cc) hch (by rw [HM.out]; have := hb4.set_ 0 (.slice D m d); simpa using this) (by rw [HM.out]; exact HH.out.made (own_far HR2.out hng 0 _) (Nat.le_refl _)) (HH.out.kept hch HLC.out) (fun f hf => .inl (List.mem_of_mem_eraseIdx hf))
      exact ⟨S', rfl, q1, hch, q2⟩
end
end Go.Proofs.YtciolppoanfiaaaDoor

/- The document's bag: Apart, Cut, Drop. -/
namespace Go.Proofs.YtciolppoanfiaaaDoor
open Go.RowKit
theorem own_alloc' {w : World} {base e size n : Nat} {v : Value} {xs : List Value} (h : w.ownsRow base e size v n xs) (o : Obj) : (w.alloc o).ownsRow base e size v n xs := own_after h ((Below.refl _ w).alloc (Nat.le_refl _) o)
def same2 (x y : Int) (c : Int × Int) : Bool := ((c.1 == x) && (c.2 == y)) || ((c.1 == y) && (c.2 == x))
def cutR (cs : List (Int × Int)) (x y : Int) (cut : Bool) : List (Int × Int) := (cs.filter fun c => !same2 x y c) ++ (if cut then [(x, y)] else [])
theorem pr_info : (Tryd.prog.info? 97).map (fun i => (i.zero, i.size, i.bytes)) = some (some (.agg #[.int .i64 0, .int .i64 0]), 2, 16) := by kernel_rfl
theorem pr_two (a b : Int) : ∀ u ∈ [Value.int .i64 a, .int .i64 b], u.oneCell' = true := by
  intro u hu
  simp only [List.mem_cons, List.not_mem_nil, or_false] at hu
  rcases hu with rfl | rfl <;> rfl
theorem Sl.pr {w : World} {lo hi n c k : Nat} {A : Option Addr} {es : List (Int × Int)} (h : Sl w lo hi 2 A n c (ccells es)) (hk : k < n) :
    ∃ ad e, A = some ad ∧ es[k]? = some e ∧ w.cell? (ad.add (k * 2)) = some (.int .i64 e.1) ∧ w.cell? ⟨(ad.add (k * 2)).block, (ad.add (k * 2)).off + 1, none⟩ = some (.int .i64 e.2) := by
  obtain ⟨ad, e, _, _, hc⟩ := h.at_ (by omega)
  have hl : k < es.length := by have := h.len; rw [ccells_len] at this; omega
  obtain ⟨h0, h1⟩ := ccells_at es k es[k] (List.getElem?_eq_getElem hl)
  have a0 := hc _ _ h0
  refine ⟨ad, es[k], e, List.getElem?_eq_getElem hl, a0, ?_⟩
  rw [← add_off a0, add_of_add]; exact hc _ _ h1
section
variable {w w1 : World} {S S' : Nat → Prop} {g : Nat} {F : List RF} {cs : List (Int × Int)} {lost : Nat}
set_option maxRecDepth 100000 in
set_option maxHeartbeats 6400000 in
theorem rbapart_any (x y : Int) (w : World) (h : RB w S g F cs lost) {b : Bool} (hb : cs.any (same2 x y) = b) :
    Calls Tryd.prog 87 #[.pointer (some ⟨g, 0, none⟩), .int .i64 x, .int .i64 y] w fun e w' => e = .returned (.bool b) ∧ w = w' := by
  obtain ⟨-, -, Af, cf, Ac, cc, hbk, -, hlc, -⟩ := h
  obtain ⟨x0, x1, x2⟩ := hbk.c3
  obtain ⟨n, hn⟩ : ∃ n, cs.length = n := ⟨_, rfl⟩
  have hs := hlc.1
  rw [hn] at hs x1
  have hcap := hs.cap
  have hmax := hs.max
  have HS := Lib.hid hs
  have HB := Lib.hid hb
  have HN := Lib.hid hn
  generalize F.length = nf at x0
  clear hbk hlc hs hb hn
  go_enter Tryd.func87, Tryd.ntmps87
  go_wp2
  go_loopw [7] (fun iv wr => ∃ k : Nat, k ≤ n ∧ iv = .int .i64 k ∧ (cs.take k).any (same2 x y) = false ∧ w = wr) (fun iv _ => n - (intOf iv).toNat)
  case atStart => exact ⟨0, Nat.zero_le _, rfl, by simp, rfl⟩
  case round =>
    obtain ⟨k, hk, rfl, hno, rfl⟩ := hrel
    have HNO := Lib.hid hno
    clear hno
    by_cases hlt : k < n
    · obtain ⟨ad, p, rfl, hp, z0, z1⟩ := HS.out.pr hlt
      have HP := Lib.hid hp
      clear hp
      obtain ⟨p1, p2⟩ := p
      simp only at z0 z1
      have hyes : same2 x y (p1, p2) = true → b = true := fun e => by
        rw [← HB.out, List.any_eq_true]
        exact ⟨_, List.mem_of_getElem? HP.out, e⟩
      have hnot : same2 x y (p1, p2) = false → (cs.take (k + 1)).any (same2 x y) = false := fun e => by
        obtain ⟨h1, h2⟩ := List.getElem?_eq_some_iff.1 HP.out
        rw [List.take_succ_eq_append_getElem h1, List.any_append, HNO.out, h2]
        simp [e]
      have HY := Lib.hid hyes
      have HNT := Lib.hid hnot
      clear hyes hnot
      cases g1 : (p1 == x)
      all_goals cases g2 : (p2 == y)
      all_goals cases g3 : (p1 == y)
      all_goals cases g4 : (p2 == x)
      all_goals
        go_wp2
        first
          | (go_ret; exact ⟨by rw [HY.out (by simp only [same2, g1, g2, g3, g4]; rfl)]; rfl, rfl⟩)
          | (go_roundw
             case rel => exact ⟨k + 1, by omega, by first | rfl | go_num, HNT.out (by simp only [same2, g1, g2, g3, g4]; rfl), by first | rfl | trivial⟩
             case measure => simp [intOf]; omega)
    · obtain rfl : k = n := by omega
      have htk : cs.take k = cs := List.take_of_length_le (by rw [HN.out]; exact Nat.le_refl _)
      have hbf : b = false := by rw [← HB.out, ← htk]; exact HNO.out
      subst hbf
      go_wp2
      go_ret
      exact ⟨rfl, rfl⟩
set_option maxRecDepth 100000 in
theorem rbdrop_no (i : Int) (w : World) (h : RB w S g F cs lost) (hi : ¬ (0 ≤ i ∧ i < (F.length : Int))) :
    Calls Tryd.prog 71 #[.pointer (some ⟨g, 0, none⟩), .int .i64 i] w fun e w' => e = .returned (.int .i64 1) ∧ w = w' := by
  have hC := rbin_any i w h (decide_eq_false hi)
  have HC := Lib.hid hC
  clear h hi hC
  go_enter Tryd.func71, Tryd.ntmps71
  go_wp2_with fail
  refine HC.out.mono ?_
  rintro e _ ⟨rfl, rfl⟩
  go_wp2
  go_ret
  exact ⟨rfl, rfl⟩
/-- the count of the lost -/
theorem RB.lose (h : RB w S g F cs lost) (m : Nat) : RB (w.setCell ⟨g, 2, none⟩ (.int .i64 (m : Int))) S g F cs m ∧ Chg (GO g) w (w.setCell ⟨g, 2, none⟩ (.int .i64 (m : Int))) := by
  have hg := only_setCell (World.grownBy.refl w (some g)) 2 (.int .i64 (m : Int))
  have hch : Chg (GO g) w (w.setCell ⟨g, 2, none⟩ (.int .i64 (m : Int))) := Chg.grown hg fun k e => by injection e with e; exact .inl e.symm
  obtain ⟨h1, h2, Af, cf, Ac, cc, h3, h4, h5, h6⟩ := h
  refine ⟨⟨fun b hb => by rw [size_setCell']; exact h1 b hb, h2, Af, cf, Ac, cc, by have := h3.set_ 2 (.int .i64 (m : Int)); simpa using this, ?_, ?_, fun f hf => ?_⟩, hch⟩
  · exact h4.turn hch.size (fun _ h => h) fun b hS hne => hch.block b (h1 b hS) hne
  · exact h5.turn hch.size (fun _ h => h) fun b hS hne => hch.block b (h1 b hS) hne
  · exact (h6 f hf).turn hch.size (fun _ h => h) fun b hS hne => hch.block b (h1 b hS) hne
theorem RB.blk (h : RB w S g F cs lost) : ∃ vf vc, Blk w g 60 #[vf, vc, .int .i64 (lost : Int)] := by
  obtain ⟨-, -, Af, cf, Ac, cc, h3, -⟩ := h
  exact ⟨_, _, h3⟩
set_option maxRecDepth 100000 in
theorem rbdrop_ok (i : Nat) (w : World) (h : RB w S g F cs lost) (hi : i < F.length) (hn : F.length ≤ 1000) (hlo : lost < 1000000) :
    Calls Tryd.prog 71 #[.pointer (some ⟨g, 0, none⟩), .int .i64 (i : Int)] w fun e w' => ∃ S', e = .returned (.int .i64 0) ∧ RB w' S' g (F.eraseIdx i) cs (lost + 1) ∧ Chg (GO g) w w' ∧ ∀ b, S' b → S b ∨ w.heap.size ≤ b := by
  have hC := rbin_any (i : Int) w h (decide_eq_true (by omega))
  have hO := rbout_any i w h hi hn
  have HC := Lib.hid hC
  have HO := Lib.hid hO
  have hw : IntKind.i64.wrap ((lost : Int) + 1) = ((lost + 1 : Nat) : Int) := by rw [IntKind.wrap_i64]; omega
  clear h hi hC hO
  go_enter Tryd.func71, Tryd.ntmps71
  go_wp2_with fail
  refine HC.out.mono ?_
  rintro e _ ⟨rfl, rfl⟩
  go_wp2_with fail
  refine HO.out.mono ?_
  rintro e w1 ⟨S', rfl, R1, d1, s1⟩
  obtain ⟨vf, vc, hb⟩ := R1.blk
  obtain ⟨x0, x1, x2⟩ := hb.c3
  have f2 := hb.frozen 2
  have HR := Lib.hid R1
  have HD := Lib.hid d1
  have HS := Lib.hid s1
  clear hb R1 d1 s1
  go_wp2
  go_ret
  obtain ⟨q1, q2⟩ := HR.out.lose (lost + 1)
  exact ⟨S', rfl, q1, HD.out.same q2, HS.out⟩
set_option maxRecDepth 100000 in
set_option maxHeartbeats 6400000 in
theorem rbcut_any (x y : Int) (cut : Bool) (w : World) (h : RB w S g F cs lost) (hlen : cs.length ≤ 1000) :
    Calls Tryd.prog 74 #[.pointer (some ⟨g, 0, none⟩), .int .i64 x, .int .i64 y, .bool cut] w fun e w' => ∃ S', e = .returned (.tuple #[]) ∧ RB w' S' g F (cutR cs x y cut) lost ∧ Chg (GO g) w w' ∧ ∀ b, S' b → S b ∨ w.heap.size ≤ b := by
  obtain ⟨i0, hi0, hz0, hz1, hz2⟩ := info_parts pr_info
  have HH := Lib.hid h
  obtain ⟨-, -, Af, cf, Ac, cc, hbk, hlf, hlc, -⟩ := h
  obtain ⟨n, hn⟩ : ∃ n, cs.length = n := ⟨_, rfl⟩
  have hs := hlc.1
  rw [hn] at hs hlen hbk
  have hcap := hs.cap
  have hmax := hs.max
  have HS := Lib.hid hs
  have HN := Lib.hid hn
  have HB := Lib.hid hbk
  have HLF := Lib.hid hlf
  have hgl := hbk.lt
  clear hbk hlc hs hn hlf
  go_enter Tryd.func74, Tryd.ntmps74
  go_wp2
  go_loopw [8, 9, 10, 11] (fun v iv _ _ wr => ∃ k : Nat, k ≤ n ∧ iv = .int .i64 k ∧ wr.ownsRow w.heap.size 97 2 v ((cs.take k).filter fun c => !same2 x y c).length (ccells ((cs.take k).filter fun c => !same2 x y c)) ∧ Below w.heap.size w wr) (fun _ iv _ _ _ => n - (intOf iv).toNat)
  case atStart => exact ⟨0, Nat.zero_le _, rfl, World.ownsRow_nil _ _ _ _, Below.refl _ _⟩
  case round =>
    obtain ⟨k, hk, rfl, hrow, hbr⟩ := hrel
    obtain ⟨D, d, rfl, -⟩ := own_sl hrow
    obtain ⟨x0, x1, x2⟩ := (HB.out.after hbr).c3
    have f1 := (HB.out.after hbr).frozen 1
    have hrl : ((cs.take k).filter fun c => !same2 x y c).length ≤ 1000 := Nat.le_trans (List.length_filter_le _ _) (by rw [List.length_take]; omega)
    have hne : g ≠ wr.heap.size := by have := hbr.size; omega
    by_cases hlt : k < n
    · obtain ⟨ad, p, rfl, hp, z0, z1⟩ := (HS.out.after (by decide) hbr).pr hlt
      have hne2 : ad.block ≠ wr.heap.size := by
        have := (HS.out.after (by decide) hbr).lt (by decide) (by omega) rfl
        omega
      have hsn : (cs.take (k + 1)).filter (fun c => !same2 x y c) = (cs.take k).filter (fun c => !same2 x y c) ++ (if same2 x y p then [] else [p]) := by
        obtain ⟨h1, h2⟩ := List.getElem?_eq_some_iff.1 hp
        rw [List.take_succ_eq_append_getElem h1, List.filter_append, h2]
        rcases h : same2 x y p with _ | _ <;> simp [h]
      have HSN := Lib.hid hsn
      obtain ⟨L, hL⟩ : ∃ L, (cs.take k).filter (fun c => !same2 x y c) = L := ⟨_, rfl⟩
      simp only [hL] at hrow hrl HSN ⊢
      obtain ⟨m, hm⟩ : ∃ m, L.length = m := ⟨_, rfl⟩
      simp only [hm] at hrow hrl ⊢
      have HM := Lib.hid hm
      have HROW := Lib.hid hrow
      have HBR := Lib.hid hbr
      obtain ⟨p1, p2⟩ := p
      simp only at z0 z1
      clear hL hm hrow hbr hp hsn
      rcases g1 : (p1 == x) with _ | _ <;> rcases g2 : (p2 == y) with _ | _ <;> rcases g3 : (p1 == y) with _ | _ <;> rcases g4 : (p2 == x) with _ | _
      · go_wp2_with (at_builtin; refine wpList_app _ rfl (.tmp 52) (.tmp 54) 58 rfl w.heap.size 97 i0 _ 2 16 Tryd.underlying58 hi0 hz0 hz1 hz2 rfl (by omega) (.slice D m d) m (ccells L) rfl (by exact own_alloc' (own_alloc' HROW.out _) _) (wr.heap.size + 1) (wr.heap.size + 1 + 1) (some ⟨wr.heap.size + 1, 0, none⟩) 1 1 [.int .i64 p1, .int .i64 p2] rfl (by have := sl_new (wr.alloc (.cells #[.int .i64 p1, .int .i64 p2] 97)) 2 1 1 #[.int .i64 p1, .int .i64 p2] 97 rfl (Nat.le_refl _) (by decide); rw [alloc_size] at this; exact this) (pr_two _ _) (by simp only [maxLen]; omega) (by omega) (by have := HBR.out.size; simp only [alloc_size]; omega) ?_; intro v4 w4 o4 gr4 a4)
        go_roundw
        case rel =>
          refine ⟨k + 1, by omega, by first | rfl | go_num, ?_, ?_⟩
          · rw [HSN.out, if_neg (by simp only [same2, g1, g2, g3, g4]; decide), List.length_append, HM.out, ccells_append]
            exact o4
          · exact ((HBR.out.alloc HBR.out.size _).alloc (by have := HBR.out.size; simp only [alloc_size]; omega) _).grown gr4 (by have := HBR.out.size; simp only [alloc_size]; omega) fun b hb => (HROW.out.lt b hb).1
        case measure => simp [intOf]; omega
      · go_wp2_with (at_builtin; refine wpList_app _ rfl (.tmp 52) (.tmp 54) 58 rfl w.heap.size 97 i0 _ 2 16 Tryd.underlying58 hi0 hz0 hz1 hz2 rfl (by omega) (.slice D m d) m (ccells L) rfl (by exact own_alloc' (own_alloc' HROW.out _) _) (wr.heap.size + 1) (wr.heap.size + 1 + 1) (some ⟨wr.heap.size + 1, 0, none⟩) 1 1 [.int .i64 p1, .int .i64 p2] rfl (by have := sl_new (wr.alloc (.cells #[.int .i64 p1, .int .i64 p2] 97)) 2 1 1 #[.int .i64 p1, .int .i64 p2] 97 rfl (Nat.le_refl _) (by decide); rw [alloc_size] at this; exact this) (pr_two _ _) (by simp only [maxLen]; omega) (by omega) (by have := HBR.out.size; simp only [alloc_size]; omega) ?_; intro v4 w4 o4 gr4 a4)
        go_roundw
        case rel =>
          refine ⟨k + 1, by omega, by first | rfl | go_num, ?_, ?_⟩
          · rw [HSN.out, if_neg (by simp only [same2, g1, g2, g3, g4]; decide), List.length_append, HM.out, ccells_append]
            exact o4
          · exact ((HBR.out.alloc HBR.out.size _).alloc (by have := HBR.out.size; simp only [alloc_size]; omega) _).grown gr4 (by have := HBR.out.size; simp only [alloc_size]; omega) fun b hb => (HROW.out.lt b hb).1
        case measure => simp [intOf]; omega
      · go_wp2_with (at_builtin; refine wpList_app _ rfl (.tmp 52) (.tmp 54) 58 rfl w.heap.size 97 i0 _ 2 16 Tryd.underlying58 hi0 hz0 hz1 hz2 rfl (by omega) (.slice D m d) m (ccells L) rfl (by exact own_alloc' (own_alloc' HROW.out _) _) (wr.heap.size + 1) (wr.heap.size + 1 + 1) (some ⟨wr.heap.size + 1, 0, none⟩) 1 1 [.int .i64 p1, .int .i64 p2] rfl (by have := sl_new (wr.alloc (.cells #[.int .i64 p1, .int .i64 p2] 97)) 2 1 1 #[.int .i64 p1, .int .i64 p2] 97 rfl (Nat.le_refl _) (by decide); rw [alloc_size] at this; exact this) (pr_two _ _) (by simp only [maxLen]; omega) (by omega) (by have := HBR.out.size; simp only [alloc_size]; omega) ?_; intro v4 w4 o4 gr4 a4)
        go_roundw
        case rel =>
          refine ⟨k + 1, by omega, by first | rfl | go_num, ?_, ?_⟩
          · rw [HSN.out, if_neg (by simp only [same2, g1, g2, g3, g4]; decide), List.length_append, HM.out, ccells_append]
            exact o4
          · exact ((HBR.out.alloc HBR.out.size _).alloc (by have := HBR.out.size; simp only [alloc_size]; omega) _).grown gr4 (by have := HBR.out.size; simp only [alloc_size]; omega) fun b hb => (HROW.out.lt b hb).1
        case measure => simp [intOf]; omega
      · go_wp2
        go_roundw
        case rel =>
          refine ⟨k + 1, by omega, by first | rfl | go_num, ?_, HBR.out.alloc HBR.out.size _⟩
          rw [HSN.out, if_pos (by simp only [same2, g1, g2, g3, g4]; rfl), List.append_nil, HM.out]
          exact own_alloc' HROW.out _
        case measure => simp [intOf]; omega
      · go_wp2_with (at_builtin; refine wpList_app _ rfl (.tmp 52) (.tmp 54) 58 rfl w.heap.size 97 i0 _ 2 16 Tryd.underlying58 hi0 hz0 hz1 hz2 rfl (by omega) (.slice D m d) m (ccells L) rfl (by exact own_alloc' (own_alloc' HROW.out _) _) (wr.heap.size + 1) (wr.heap.size + 1 + 1) (some ⟨wr.heap.size + 1, 0, none⟩) 1 1 [.int .i64 p1, .int .i64 p2] rfl (by have := sl_new (wr.alloc (.cells #[.int .i64 p1, .int .i64 p2] 97)) 2 1 1 #[.int .i64 p1, .int .i64 p2] 97 rfl (Nat.le_refl _) (by decide); rw [alloc_size] at this; exact this) (pr_two _ _) (by simp only [maxLen]; omega) (by omega) (by have := HBR.out.size; simp only [alloc_size]; omega) ?_; intro v4 w4 o4 gr4 a4)
        go_roundw
        case rel =>
          refine ⟨k + 1, by omega, by first | rfl | go_num, ?_, ?_⟩
          · rw [HSN.out, if_neg (by simp only [same2, g1, g2, g3, g4]; decide), List.length_append, HM.out, ccells_append]
            exact o4
          · exact ((HBR.out.alloc HBR.out.size _).alloc (by have := HBR.out.size; simp only [alloc_size]; omega) _).grown gr4 (by have := HBR.out.size; simp only [alloc_size]; omega) fun b hb => (HROW.out.lt b hb).1
        case measure => simp [intOf]; omega
      · go_wp2_with (at_builtin; refine wpList_app _ rfl (.tmp 52) (.tmp 54) 58 rfl w.heap.size 97 i0 _ 2 16 Tryd.underlying58 hi0 hz0 hz1 hz2 rfl (by omega) (.slice D m d) m (ccells L) rfl (by exact own_alloc' (own_alloc' HROW.out _) _) (wr.heap.size + 1) (wr.heap.size + 1 + 1) (some ⟨wr.heap.size + 1, 0, none⟩) 1 1 [.int .i64 p1, .int .i64 p2] rfl (by have := sl_new (wr.alloc (.cells #[.int .i64 p1, .int .i64 p2] 97)) 2 1 1 #[.int .i64 p1, .int .i64 p2] 97 rfl (Nat.le_refl _) (by decide); rw [alloc_size] at this; exact this) (pr_two _ _) (by simp only [maxLen]; omega) (by omega) (by have := HBR.out.size; simp only [alloc_size]; omega) ?_; intro v4 w4 o4 gr4 a4)
        go_roundw
        case rel =>
          refine ⟨k + 1, by omega, by first | rfl | go_num, ?_, ?_⟩
          · rw [HSN.out, if_neg (by simp only [same2, g1, g2, g3, g4]; decide), List.length_append, HM.out, ccells_append]
            exact o4
          · exact ((HBR.out.alloc HBR.out.size _).alloc (by have := HBR.out.size; simp only [alloc_size]; omega) _).grown gr4 (by have := HBR.out.size; simp only [alloc_size]; omega) fun b hb => (HROW.out.lt b hb).1
        case measure => simp [intOf]; omega
      · go_wp2_with (at_builtin; refine wpList_app _ rfl (.tmp 52) (.tmp 54) 58 rfl w.heap.size 97 i0 _ 2 16 Tryd.underlying58 hi0 hz0 hz1 hz2 rfl (by omega) (.slice D m d) m (ccells L) rfl (by exact own_alloc' (own_alloc' HROW.out _) _) (wr.heap.size + 1) (wr.heap.size + 1 + 1) (some ⟨wr.heap.size + 1, 0, none⟩) 1 1 [.int .i64 p1, .int .i64 p2] rfl (by have := sl_new (wr.alloc (.cells #[.int .i64 p1, .int .i64 p2] 97)) 2 1 1 #[.int .i64 p1, .int .i64 p2] 97 rfl (Nat.le_refl _) (by decide); rw [alloc_size] at this; exact this) (pr_two _ _) (by simp only [maxLen]; omega) (by omega) (by have := HBR.out.size; simp only [alloc_size]; omega) ?_; intro v4 w4 o4 gr4 a4)
        go_roundw
        case rel =>
          refine ⟨k + 1, by omega, by first | rfl | go_num, ?_, ?_⟩
          · rw [HSN.out, if_neg (by simp only [same2, g1, g2, g3, g4]; decide), List.length_append, HM.out, ccells_append]
            exact o4
          · exact ((HBR.out.alloc HBR.out.size _).alloc (by have := HBR.out.size; simp only [alloc_size]; omega) _).grown gr4 (by have := HBR.out.size; simp only [alloc_size]; omega) fun b hb => (HROW.out.lt b hb).1
        case measure => simp [intOf]; omega
      · go_wp2
        go_roundw
        case rel =>
          refine ⟨k + 1, by omega, by first | rfl | go_num, ?_, HBR.out.alloc HBR.out.size _⟩
          rw [HSN.out, if_pos (by simp only [same2, g1, g2, g3, g4]; rfl), List.append_nil, HM.out]
          exact own_alloc' HROW.out _
        case measure => simp [intOf]; omega
      · go_wp2_with (at_builtin; refine wpList_app _ rfl (.tmp 52) (.tmp 54) 58 rfl w.heap.size 97 i0 _ 2 16 Tryd.underlying58 hi0 hz0 hz1 hz2 rfl (by omega) (.slice D m d) m (ccells L) rfl (by exact own_alloc' (own_alloc' HROW.out _) _) (wr.heap.size + 1) (wr.heap.size + 1 + 1) (some ⟨wr.heap.size + 1, 0, none⟩) 1 1 [.int .i64 p1, .int .i64 p2] rfl (by have := sl_new (wr.alloc (.cells #[.int .i64 p1, .int .i64 p2] 97)) 2 1 1 #[.int .i64 p1, .int .i64 p2] 97 rfl (Nat.le_refl _) (by decide); rw [alloc_size] at this; exact this) (pr_two _ _) (by simp only [maxLen]; omega) (by omega) (by have := HBR.out.size; simp only [alloc_size]; omega) ?_; intro v4 w4 o4 gr4 a4)
        go_roundw
        case rel =>
          refine ⟨k + 1, by omega, by first | rfl | go_num, ?_, ?_⟩
          · rw [HSN.out, if_neg (by simp only [same2, g1, g2, g3, g4]; decide), List.length_append, HM.out, ccells_append]
            exact o4
          · exact ((HBR.out.alloc HBR.out.size _).alloc (by have := HBR.out.size; simp only [alloc_size]; omega) _).grown gr4 (by have := HBR.out.size; simp only [alloc_size]; omega) fun b hb => (HROW.out.lt b hb).1
        case measure => simp [intOf]; omega
      · go_wp2_with (at_builtin; refine wpList_app _ rfl (.tmp 52) (.tmp 54) 58 rfl w.heap.size 97 i0 _ 2 16 Tryd.underlying58 hi0 hz0 hz1 hz2 rfl (by omega) (.slice D m d) m (ccells L) rfl (by exact own_alloc' (own_alloc' HROW.out _) _) (wr.heap.size + 1) (wr.heap.size + 1 + 1) (some ⟨wr.heap.size + 1, 0, none⟩) 1 1 [.int .i64 p1, .int .i64 p2] rfl (by have := sl_new (wr.alloc (.cells #[.int .i64 p1, .int .i64 p2] 97)) 2 1 1 #[.int .i64 p1, .int .i64 p2] 97 rfl (Nat.le_refl _) (by decide); rw [alloc_size] at this; exact this) (pr_two _ _) (by simp only [maxLen]; omega) (by omega) (by have := HBR.out.size; simp only [alloc_size]; omega) ?_; intro v4 w4 o4 gr4 a4)
        go_roundw
        case rel =>
          refine ⟨k + 1, by omega, by first | rfl | go_num, ?_, ?_⟩
          · rw [HSN.out, if_neg (by simp only [same2, g1, g2, g3, g4]; decide), List.length_append, HM.out, ccells_append]
            exact o4
          · exact ((HBR.out.alloc HBR.out.size _).alloc (by have := HBR.out.size; simp only [alloc_size]; omega) _).grown gr4 (by have := HBR.out.size; simp only [alloc_size]; omega) fun b hb => (HROW.out.lt b hb).1
        case measure => simp [intOf]; omega
      · go_wp2_with (at_builtin; refine wpList_app _ rfl (.tmp 52) (.tmp 54) 58 rfl w.heap.size 97 i0 _ 2 16 Tryd.underlying58 hi0 hz0 hz1 hz2 rfl (by omega) (.slice D m d) m (ccells L) rfl (by exact own_alloc' (own_alloc' HROW.out _) _) (wr.heap.size + 1) (wr.heap.size + 1 + 1) (some ⟨wr.heap.size + 1, 0, none⟩) 1 1 [.int .i64 p1, .int .i64 p2] rfl (by have := sl_new (wr.alloc (.cells #[.int .i64 p1, .int .i64 p2] 97)) 2 1 1 #[.int .i64 p1, .int .i64 p2] 97 rfl (Nat.le_refl _) (by decide); rw [alloc_size] at this; exact this) (pr_two _ _) (by simp only [maxLen]; omega) (by omega) (by have := HBR.out.size; simp only [alloc_size]; omega) ?_; intro v4 w4 o4 gr4 a4)
        go_roundw
        case rel =>
          refine ⟨k + 1, by omega, by first | rfl | go_num, ?_, ?_⟩
          · rw [HSN.out, if_neg (by simp only [same2, g1, g2, g3, g4]; decide), List.length_append, HM.out, ccells_append]
            exact o4
          · exact ((HBR.out.alloc HBR.out.size _).alloc (by have := HBR.out.size; simp only [alloc_size]; omega) _).grown gr4 (by have := HBR.out.size; simp only [alloc_size]; omega) fun b hb => (HROW.out.lt b hb).1
        case measure => simp [intOf]; omega
      · go_wp2
        go_roundw
        case rel =>
          refine ⟨k + 1, by omega, by first | rfl | go_num, ?_, HBR.out.alloc HBR.out.size _⟩
          rw [HSN.out, if_pos (by simp only [same2, g1, g2, g3, g4]; rfl), List.append_nil, HM.out]
          exact own_alloc' HROW.out _
        case measure => simp [intOf]; omega
      · go_wp2
        go_roundw
        case rel =>
          refine ⟨k + 1, by omega, by first | rfl | go_num, ?_, HBR.out.alloc HBR.out.size _⟩
          rw [HSN.out, if_pos (by simp only [same2, g1, g2, g3, g4]; rfl), List.append_nil, HM.out]
          exact own_alloc' HROW.out _
        case measure => simp [intOf]; omega
      · go_wp2
        go_roundw
        case rel =>
          refine ⟨k + 1, by omega, by first | rfl | go_num, ?_, HBR.out.alloc HBR.out.size _⟩
          rw [HSN.out, if_pos (by simp only [same2, g1, g2, g3, g4]; rfl), List.append_nil, HM.out]
          exact own_alloc' HROW.out _
        case measure => simp [intOf]; omega
      · go_wp2
        go_roundw
        case rel =>
          refine ⟨k + 1, by omega, by first | rfl | go_num, ?_, HBR.out.alloc HBR.out.size _⟩
          rw [HSN.out, if_pos (by simp only [same2, g1, g2, g3, g4]; rfl), List.append_nil, HM.out]
          exact own_alloc' HROW.out _
        case measure => simp [intOf]; omega
      · go_wp2
        go_roundw
        case rel =>
          refine ⟨k + 1, by omega, by first | rfl | go_num, ?_, HBR.out.alloc HBR.out.size _⟩
          rw [HSN.out, if_pos (by simp only [same2, g1, g2, g3, g4]; rfl), List.append_nil, HM.out]
          exact own_alloc' HROW.out _
        case measure => simp [intOf]; omega
    · obtain rfl : k = n := by omega
      have htk : cs.take k = cs := List.take_of_length_le (by rw [HN.out]; exact Nat.le_refl _)
      rw [htk] at hrow hrl
      simp only [htk]
      obtain ⟨L, hL⟩ : ∃ L, cs.filter (fun c => !same2 x y c) = L := ⟨_, rfl⟩
      simp only [hL] at hrow hrl ⊢
      have HL := Lib.hid hL
      have HROW := Lib.hid hrow
      have HBR := Lib.hid hbr
      obtain ⟨m, hm⟩ : ∃ m, L.length = m := ⟨_, rfl⟩
      have hrow2 := hrow
      simp only [hm] at hrow2 hrl ⊢
      have HM := Lib.hid hm
      have HR2 := Lib.hid hrow2
      clear hrow hbr hrow2 hm htk hL
      have hfin : ∀ (W : World) (D' : Option Addr) (d' : Nat) (cs' : List (Int × Int)), Below w.heap.size w W → W.ownsRow w.heap.size 97 2 (.slice D' cs'.length d') cs'.length (ccells cs') → ∃ S', RB (W.setCell ⟨g, 1, none⟩ (.slice D' cs'.length d')) S' g F cs' lost ∧ Chg (GO g) w (W.setCell ⟨g, 1, none⟩ (.slice D' cs'.length d')) ∧ ∀ b, S' b → S b ∨ w.heap.size ≤ b := fun W D' d' cs' hW ho => by
        have hb4 := HB.out.after hW
        have hch : Chg (GO g) w (W.setCell ⟨g, 1, none⟩ (.slice D' cs'.length d')) := (Chg.below hW).same (Chg.grown (only_setCell (World.grownBy.refl W (some g)) 1 _) fun k e => by injection e with e; exact .inl e.symm)
        have hng : (Value.slice D' cs'.length d').ownBlock ≠ some g := fun e => by have := (ho.lt g e).1; omega
        obtain ⟨S', q1, q2⟩ := HH.out.turn (F' := F) (cs' := cs') (lost' := lost) (Af := Af) (cf := cf) (Ac := D') (cc := d') hch (by have := hb4.set_ 1 (.slice D' cs'.length d'); simpa using this) (HH.out.kept hch HLF.out) (HH.out.made (own_far ho hng 1 _) (Nat.le_refl _)) (fun f hf => .inl hf)
        exact ⟨S', q1, hch, q2⟩
      have HFIN := Lib.hid hfin
      clear hfin
      cases cut with
      | false =>
        go_wp2
        go_end0
        have := HFIN.out wr D d L HBR.out (by rw [HM.out]; exact HR2.out)
        rw [HM.out] at this
        obtain ⟨S', q⟩ := this
        refine ⟨S', rfl, ?_, q.2⟩
        have e : cutR cs x y false = L := by unfold cutR; rw [HL.out]; simp
        rw [e]; exact q.1
      | true =>
        have hk4 : ∀ w4 : World, (wr.alloc (.cells #[.int .i64 x, .int .i64 y] 97)).grownBy w4 (Value.slice D m d).ownBlock → Blk w4 g 60 #[.slice Af F.length cf, .slice Ac k cc, .int .i64 (lost : Int)] := fun w4 g4 => ((HB.out.after HBR.out).alloc _).grown g4 fun e => by have := (HR2.out.lt _ e.symm).1; omega
        have HK4 := Lib.hid hk4
        clear hk4
        go_wp2_with (at_builtin; refine wpList_app _ rfl (.tmp 57) (.tmp 61) 58 rfl w.heap.size 97 i0 _ 2 16 Tryd.underlying58 hi0 hz0 hz1 hz2 rfl (by omega) (.slice D m d) m (ccells L) rfl (by exact own_alloc' HR2.out _) wr.heap.size (wr.heap.size + 1) (some ⟨wr.heap.size, 0, none⟩) 1 1 [.int .i64 x, .int .i64 y] rfl (by exact sl_new wr 2 1 1 #[.int .i64 x, .int .i64 y] 97 rfl (Nat.le_refl _) (by decide)) (pr_two _ _) (by simp only [maxLen]; omega) (by omega) (by have := HBR.out.size; simp only [alloc_size]; omega) ?_; intro v4 w4 o4 g4 a4; have hb4 := HK4.out w4 g4; obtain ⟨y0, y1, y2⟩ := hb4.c3; have f1' := hb4.frozen 1; obtain ⟨A4, c4, hv4, -⟩ := own_sl o4; subst hv4)
        go_end0
        have hl1 : (L ++ [(x, y)]).length = m + 1 := by rw [List.length_append, HM.out]; rfl
        have := HFIN.out w4 A4 c4 (L ++ [(x, y)]) ((HBR.out.alloc HBR.out.size _).grown g4 (by have := HBR.out.size; simp only [alloc_size]; omega) fun b hb => (HR2.out.lt b hb).1) (by rw [hl1, ccells_append]; exact o4)
        rw [hl1] at this
        obtain ⟨S', q⟩ := this
        refine ⟨S', rfl, ?_, q.2⟩
        have e : cutR cs x y true = L ++ [(x, y)] := by unfold cutR; rw [HL.out]; simp
        rw [e]; exact q.1
end
end Go.Proofs.YtciolppoanfiaaaDoor

/- The document's bag: Twice. -/
namespace Go.Proofs.YtciolppoanfiaaaDoor
open Go.RowKit
section
variable {w w1 : World} {S S' : Nat → Prop} {g : Nat} {F : List RF} {cs : List (Int × Int)} {lost : Nat}
set_option maxRecDepth 100000 in
theorem rbtwice_no (i : Int) (w : World) (h : RB w S g F cs lost) (hi : ¬ (0 ≤ i ∧ i < (F.length : Int))) :
    Calls Tryd.prog 72 #[.pointer (some ⟨g, 0, none⟩), .int .i64 i] w fun e w' => e = .returned (.int .i64 1) ∧ w = w' := by
  have hC := rbin_any i w h (decide_eq_false hi)
  have HC := Lib.hid hC
  clear h hi hC
  go_enter Tryd.func72, Tryd.ntmps72
  go_wp2_with fail
  refine HC.out.mono ?_
  rintro e _ ⟨rfl, rfl⟩
  go_wp2
  go_ret
  exact ⟨rfl, rfl⟩
set_option maxRecDepth 100000 in
theorem rbtwice_full (i : Int) (w : World) (h : RB w S g F cs lost) (hi : 0 ≤ i ∧ i < (F.length : Int)) (h60 : F.length = 60) :
    Calls Tryd.prog 72 #[.pointer (some ⟨g, 0, none⟩), .int .i64 i] w fun e w' => e = .returned (.int .i64 42) ∧ w = w' := by
  have hC := rbin_any i w h (decide_eq_true hi)
  have HC := Lib.hid hC
  obtain ⟨-, -, Af, cf, Ac, cc, hbk, -, -, -⟩ := h
  obtain ⟨x0, x1, x2⟩ := hbk.c3
  rw [h60] at x0
  clear hi hC hbk
  go_enter Tryd.func72, Tryd.ntmps72
  go_wp2_with fail
  refine HC.out.mono ?_
  rintro e _ ⟨rfl, rfl⟩
  go_wp2
  go_ret
  exact ⟨rfl, rfl⟩
theorem cell_belowR {w w1 : World} {p : Addr} {u : Value} (hb : Below w.heap.size w w1) (h : w.cell? p = some u) : w1.cell? p = some u := (hb.cell (World.block_lt_of_cell? w _ h)).trans h
theorem rf_one (F : List RF) : ∀ u ∈ F.map RF.v, u.oneCell' = true := by
  intro u hu
  obtain ⟨f, -, rfl⟩ := List.mem_map.1 hu
  rfl
/-- a frame more -/
theorem RB.push (h : RB w S g F cs lost) {w2 : World} {f : RF} {v : Value} (hown : w2.ownsRow w.heap.size 22 1 v (F.length + 1) (F.map RF.v ++ [f.v])) (hb2 : Below w.heap.size w w2) (hf : f ∈ F ∨ Lie w2 (fun b => S b ∨ (w.heap.size ≤ b ∧ b < w2.heap.size)) g 1 f.A f.l.length f.c (f.l.map bv)) :
    ∃ S', RB (w2.setCell ⟨g, 0, none⟩ v) S' g (F ++ [f]) cs lost ∧ Chg (GO g) w (w2.setCell ⟨g, 0, none⟩ v) ∧ ∀ b, S' b → S b ∨ w.heap.size ≤ b := by
  obtain ⟨D, d, rfl, -⟩ := own_sl hown
  have h0 := h
  obtain ⟨htop, hgS, Af, cf, Ac, cc, hbk, hlf, hlc, hfr⟩ := h
  have hgl := hbk.lt
  have hb4 := hbk.after hb2
  have hch : Chg (GO g) w (w2.setCell ⟨g, 0, none⟩ (.slice D (F.length + 1) d)) := (Chg.below hb2).same (Chg.grown (only_setCell (World.grownBy.refl w2 (some g)) 0 (.slice D (F.length + 1) d)) fun k e => by injection e with e; exact .inl e.symm)
  have hng : (Value.slice D (F.length + 1) d).ownBlock ≠ some g := fun e => by have := (hown.lt g e).1; omega
  have hl : (F ++ [f]).length = F.length + 1 := by simp
  obtain ⟨S', q1, q2⟩ := h0.turn (F' := F ++ [f]) (cs' := cs) (lost' := lost) (Af := D) (cf := d) (Ac := Ac) (cc := cc) hch (by rw [hl]; have := hb4.set_ 0 (.slice D (F.length + 1) d); simpa using this) (by rw [hl, List.map_append]; exact h0.made (own_far hown hng 0 _) (Nat.le_refl _)) (h0.kept hch hlc) (fun x hx => by
    rcases List.mem_append.1 hx with hx | hx
    · exact .inl hx
    · rw [List.mem_singleton.1 hx]
      rcases hf with hf | hf
      · exact .inl hf
      · refine .inr (hf.turn (by simp) (fun b hb => by simpa using hb) fun b hb hne => ?_)
        exact Below.heap_setCell w2 ⟨g, 0, none⟩ _ b hne)
  exact ⟨S', q1, hch, q2⟩
end
end Go.Proofs.YtciolppoanfiaaaDoor
