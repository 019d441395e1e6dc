/- A group begins. -/
import Derived.Test.YtbgdepaffgeinaaEzGrp
import Derived.Test.YtbgdepaffgeinaaEzPlain
import Derived.Deep.DeepCutAuto
namespace Go.Proofs.Ytbgdepaffgeinaa
open Go.RowKit
theorem ptr_info : (Try.prog.info? 52).map (fun i => (i.zero, i.size, i.bytes)) = some (some (.pointer none), 1, 8) := by kernel_rfl
/-- a group gets one node more -/
theorem GrpP.nodes_ {H : Nat} {w wq w4 : World} {g : Nat} {r : GR} {xs : List GN} {G : GP} (h : GrpP H w g r xs G) (y : GN) (hy : NodeP H w y.O y.b y.p y.x) (hoff : ∀ k, y.O k → ¬ r.W g k) (hap : ∀ z ∈ xs, ∀ k, z.O k → ¬ y.O k)
    {v4 : Value} (hq : Below w.heap.size w wq) (hown : w4.ownsRow H 52 1 v4 (xs ++ [y]).length ((xs ++ [y]).map GN.ptr)) (hg4 : wq.grownBy w4 r.nv.ownBlock) (hat : v4.ownBlock = r.nv.ownBlock ∨ ∀ k, v4.ownBlock = some k → w.heap.size ≤ k) :
    GrpP H (w4.setCell ⟨g, 0, none⟩ v4) g { r with nv := v4 } (xs ++ [y]) { G with nodes := G.nodes ++ [y.x] } ∧ Chg (fun k => k = g ∨ r.nv.ownBlock = some k) w (w4.setCell ⟨g, 0, none⟩ v4) := by
  have hc : Chg (fun k => k = g ∨ r.nv.ownBlock = some k) w (w4.setCell ⟨g, 0, none⟩ v4) := ((Chg.below hq).same (Chg.grown hg4 fun k e => .inl (.inr e))).put (.inl rfl) 0 v4
  have hrg : r.nv.ownBlock ≠ some g := row_ne h.nodes h.blk (by decide)
  have hb4 := (h.blk.after hq).grown hg4 fun e => hrg e.symm
  have hvg : v4.ownBlock ≠ some g := row_ne hown hb4 (by decide)
  have hW : ∀ k, (k = g ∨ r.nv.ownBlock = some k) → r.W g k := fun k hk => hk.elim .inl fun e => .inr (.inl e)
  have hH : ∀ k, (k = g ∨ r.nv.ownBlock = some k) → H ≤ k := fun k hk => hk.elim (fun e => by rw [e]; exact h.hg) fun e => (h.nodes.lt k e).1
  have r_msgs : ∀ k, r.mv.ownBlock = some k → ¬ (k = g ∨ r.nv.ownBlock = some k) := fun k hk hk' => hk'.elim (fun e => row_ne h.msgs h.blk (by decide) (by rw [hk, e])) fun e => row_ne_row h.msgs h.nodes (by decide) k hk e
  have r_terms : ∀ k, r.tv.ownBlock = some k → ¬ (k = g ∨ r.nv.ownBlock = some k) := fun k hk hk' => hk'.elim (fun e => row_ne h.terms h.blk (by decide) (by rw [hk, e])) fun e => row_ne_row h.terms h.nodes (by decide) k hk e
  have r_leads : ∀ k, r.lv.ownBlock = some k → ¬ (k = g ∨ r.nv.ownBlock = some k) := fun k hk hk' => hk'.elim (fun e => row_ne h.leads h.blk (by decide) (by rw [hk, e])) fun e => row_ne_row h.leads h.nodes (by decide) k hk e
  have node' : ∀ z ∈ xs ++ [y], NodeP H w z.O z.b z.p z.x ∧ ∀ k, z.O k → ¬ r.W g k := fun z hz => by
    rcases List.mem_append.1 hz with hz | hz
    · exact ⟨h.node z hz, h.off z hz⟩
    · rw [List.mem_singleton.1 hz]; exact ⟨hy, hoff⟩
  refine ⟨⟨by have := hb4.set_ 0 v4; simpa [GR.cells] using this, own_far hown hvg _ _, own_chg h.msgs hc r_msgs, own_chg h.terms hc r_terms, own_chg h.leads hc r_leads, h.hg, by rw [List.map_append, h.is]; rfl, fun z hz => (node' z hz).1.other hc (fun k hk hk' => (node' z hz).2 k hk (hW k hk')) hH, ?_, ?_⟩, hc⟩
  · intro z hz k hk hw
    have hlt := (node' z hz).1.top k hk
    have hno := (node' z hz).2 k hk
    unfold GR.W at hw hno
    simp only [not_or] at hno
    obtain ⟨n1, n2, n3, n4, n5⟩ := hno
    rcases hw with hw | hw | hw | hw | hw
    · exact n1 hw
    · rcases hat with e | e
      · exact n2 (by rw [← e]; exact hw)
      · have := e k hw; omega
    · exact n3 hw
    · exact n4 hw
    · exact n5 hw
  · rw [List.pairwise_append]
    refine ⟨h.apart, List.pairwise_singleton _ _, fun a ha b hb => ?_⟩
    rw [List.mem_singleton.1 hb]
    exact hap a ha
/-- a node's log is another one -/
theorem NodeP.logs {H : Nat} {w w1 : World} {O O' : Nat → Prop} {b er ec : Nat} {eA : Option Addr} {p : NP} {x x' : ND} (h : NodeP H w O b p x) (hg : w.grownBy w1 (some b)) (hb : Blk w1 b 75 (NP.cells { p with eA := eA, ec := ec, er := er } x')) (hconf : x'.conf = x.conf) (hyes : x'.yes = x.yes) (hn : x'.next = x.next) (hm : x'.mt = x.mt)
    (hO : ∀ k, O k → O' k) (hlow : ∀ k, O' k → H ≤ k) (htop : ∀ k, O' k → k < w1.heap.size) (hes : Sl w1 er (er + 1) 3 eA x'.es.length ec (ecells x'.es)) (hesO : 0 < x'.es.length → O' er ∧ ¬ O er) : NodeP H w1 O' b { p with eA := eA, ec := ec, er := er } x' := by
  have far : ∀ {size n : Nat} {e : TypeId} {v : Value} {zs : List Value}, 75 ≠ e → w.ownsRow 0 e size v n zs → w1.ownsRow 0 e size v n zs := fun ht hr => hr.kept hg (.inr (row_ne hr h.blk ht))
  refine ⟨hlow, htop, hO b h.bO, hb, ?_, ?_, by rw [hyes]; exact far (by decide) h.yes, fun k hk => hO k (h.yesO k hk), by rw [hn]; exact far (by decide) h.next, fun k hk => ⟨hO k (h.nextO k hk).1, (h.nextO k hk).2⟩, by rw [hm]; exact far (by decide) h.mt, fun k hk => hO k (h.mtO k hk), hes, fun hn => ⟨.inr (hesO hn).1, fun hw => (hesO hn).2 (h.W_sub er hw)⟩⟩
  · show w1.ownsRow 0 _ 1 (.slice p.cA x'.conf.length p.cc) x'.conf.length (x'.conf.map iv)
    rw [hconf]; exact far (by decide) h.conf
  · intro k hk
    have hk' : (NP.cv p x).ownBlock = some k := by
      have : NP.cv { p with eA := eA, ec := ec, er := er } x' = NP.cv p x := by show Value.slice p.cA x'.conf.length p.cc = Value.slice p.cA x.conf.length p.cc; rw [hconf]
      rw [← this]; exact hk
    exact ⟨hO k (h.confO k hk').1, (h.confO k hk').2⟩
/-- the logs that came in -/
structure LogsAt (w : World) (A : Option Addr) (n c : Nat) (vs : List Value) : Prop where
  row : ∃ lo hi, Sl w lo hi 1 A n c vs
  each : ∀ v ∈ vs, ∃ (A' : Option Addr) (n' c' lo hi : Nat) (xs : List Nat), v = .slice A' n' c' ∧ Sl w lo hi 1 A' n' c' (xs.map uv)
theorem LogsAt.after {w w' : World} {A : Option Addr} {n c : Nat} {vs : List Value} (h : LogsAt w A n c vs) (hb : Below w.heap.size w w') : LogsAt w' A n c vs :=
  ⟨by obtain ⟨lo, hi, hs⟩ := h.row; exact ⟨lo, hi, hs.after (by decide) hb⟩, fun v hv => by obtain ⟨A', n', c', lo, hi, xs, e, hs⟩ := h.each v hv; exact ⟨A', n', c', lo, hi, xs, e, hs.after (by decide) hb⟩⟩
theorem LogsAt.at_ {w : World} {A : Option Addr} {n c k : Nat} {vs : List Value} (h : LogsAt w A n c vs) (hk : k < n) : ∃ (ad : Addr) (A' : Option Addr) (n' c' lo hi : Nat) (xs : List Nat), A = some ad ∧ w.cell? (ad.add k) = some (.slice A' n' c') ∧ Sl w lo hi 1 A' n' c' (xs.map uv) := by
  obtain ⟨lo, hi, hs⟩ := h.row
  obtain ⟨ad, u, e, hu, hc⟩ := hs.nth hk
  obtain ⟨A', n', c', lo', hi', xs, rfl, hs'⟩ := h.each u (List.mem_of_getElem? hu)
  exact ⟨ad, A', n', c', lo', hi', xs, e, hc, hs'⟩
def confOf (many : Nat) : List Int := (List.range many).map fun (j : Nat) => ((j : Nat) : Int)
/-- a node of a group that begins -/
def ndOf (many : Nat) (E : Nat → List Ent) (i : Nat) : ND := { ND.fresh (i : Int) (confOf many) with es := E i, term := lastTerm 0 0 (E i) }
def gpOf (many : Nat) (E : Nat → List Ent) (k : Nat) : GP := ⟨(List.range k).map (ndOf many E), [], [], []⟩
structure Logs (nl : Nat) (E : Nat → List Ent) : Prop where
  few : ∀ i, (E i).length ≤ 6
  small : ∀ i, ∀ e ∈ E i, e.t < 100
  none_ : ∀ i, nl ≤ i → E i = []
theorem last_small {es : List Ent} (h : ∀ e ∈ es, e.t < 100) : lastTerm 0 0 es ≤ 99 := by
  unfold lastTerm termAt
  split
  · exact Nat.zero_le _
  · unfold entAt
    split
    · cases hE : es[0 + es.length - 0 - 1]? with
      | none => exact Nat.zero_le _
      | some e => have := h e (List.mem_of_getElem? hE); show e.t ≤ 99; omega
    · exact Nat.zero_le _
theorem fine_begun {many nl : Nat} {E : Nat → List Ent} (hE : Logs nl E) (hm : many ≤ 5) : (gpOf many E many).Fine 0 := by
  have hno : ∀ m, ¬ m ∈ (gpOf many E many).msgs := fun m h => by cases h
  refine ⟨⟨?_, fun m h => absurd h (hno m), ?_⟩, ⟨?_, fun m h => absurd h (hno m), fun m h => absurd h (hno m), fun m h => absurd h (hno m)⟩, Nat.le_refl _, Nat.le_refl _, Nat.le_refl _⟩
  rotate_left
  · show ((List.range many).map (ndOf many E)).length ≤ 5; simpa using hm
  rotate_left
  · intro x hx
    obtain ⟨i, -, rfl⟩ := List.mem_map.1 hx
    exact ⟨rfl, by show (confOf many).length ≤ 5; simpa [confOf] using hm, last_small (hE.small i), hE.few i, Nat.zero_le _⟩
  · intro i x hx
    have hx' : ((List.range many).map (ndOf many E))[i]? = some x := hx
    rw [List.getElem?_map] at hx'
    obtain ⟨j, hj, rfl⟩ := Option.map_eq_some_iff.1 hx'
    have hil := (List.getElem?_eq_some_iff.1 hj).1
    rw [List.getElem?_range (by simpa using hil)] at hj
    injection hj with hj
    subst hj
    rfl
theorem range_iv (k : Nat) : (confOf (k + 1)).map iv = (confOf k).map iv ++ [.int .i64 (k : Int)] := by
  unfold confOf
  rw [List.range_succ]
  simp [iv]
theorem confOf_len (k : Nat) : (confOf k).length = k := by simp [confOf]
theorem gpOf_succ (many : Nat) (E : Nat → List Ent) (k : Nat) : gpOf many E (k + 1) = { gpOf many E k with nodes := (gpOf many E k).nodes ++ [ndOf many E k] } := by
  unfold gpOf
  rw [List.range_succ]
  simp
theorem gpOf_same {many k : Nat} {E E' : Nat → List Ent} (h : ∀ j, j < k → E' j = E j) : gpOf many E' k = gpOf many E k := by
  unfold gpOf
  congr 1
  apply List.map_congr_left
  intro j hj
  unfold ndOf
  rw [h j (List.mem_range.1 hj)]
theorem own_es {w : World} {base n : Nat} {e : TypeId} {v : Value} {xs : List Value} (h : w.ownsRow base e 3 v n xs) : ∃ er A c, v = .slice A n c ∧ Sl w er (er + 1) 3 A n c xs ∧ (0 < n → base ≤ er ∧ er < w.heap.size) := by
  rcases Nat.eq_zero_or_pos n with h0 | h0
  · obtain ⟨A, c, hv, hs⟩ := own_sl h
    exact ⟨0, A, c, hv, ⟨hs.len, hs.cap, hs.max, fun hn => by omega⟩, fun hn => by omega⟩
  · obtain ⟨g, c, hv, h1, h2, hs⟩ := own_at h h0
    exact ⟨g, _, c, hv, hs, fun _ => ⟨h1, h2⟩⟩
/-- a node behind its log's storing -/
theorem fresh_logged {H : Nat} {w2 w3 : World} {O : Nat → Prop} {b : Nat} {p : NP} {x : ND} {v : Value} {es : List Ent} (h : NodeP H w2 O b p x) (hb : Below w2.heap.size w2 w3) (hbase : x.base = 0 ∧ x.bt = 0) (hrow : w3.ownsRow w2.heap.size 35 3 v es.length (ecells es)) :
    ∃ er A c, v = .slice A es.length c ∧ NodeP H (((w3.setCell ⟨b, 8, none⟩ (.int .u64 0)).setCell ⟨b, 9, none⟩ (.int .u64 0)).setCell ⟨b, 10, none⟩ v) (fun k => O k ∨ (0 < es.length ∧ k = er)) b { p with eA := A, ec := c, er := er } { x with es := es } ∧
      Sl (((w3.setCell ⟨b, 8, none⟩ (.int .u64 0)).setCell ⟨b, 9, none⟩ (.int .u64 0)).setCell ⟨b, 10, none⟩ v) er (er + 1) 3 A es.length c (ecells es) ∧ (0 < es.length → w2.heap.size ≤ er) := by
  obtain ⟨er, A, c, hv, hs, her⟩ := own_es hrow
  have h3 := h.after hb
  have hbl := h.blk.lt
  have hg : w3.grownBy (((w3.setCell ⟨b, 8, none⟩ (.int .u64 0)).setCell ⟨b, 9, none⟩ (.int .u64 0)).setCell ⟨b, 10, none⟩ v) (some b) := only_setCell (only_setCell (only_setCell (World.grownBy.refl w3 (some b)) 8 _) 9 _) 10 v
  have hs' : Sl (((w3.setCell ⟨b, 8, none⟩ (.int .u64 0)).setCell ⟨b, 9, none⟩ (.int .u64 0)).setCell ⟨b, 10, none⟩ v) er (er + 1) 3 A es.length c (ecells es) := hs.stay fun hn => hg.block er (her hn).2 (fun e => by injection e with e; have := (her hn).1; omega)
  refine ⟨er, A, c, hv, ?_, hs', fun hn => (her hn).1⟩
  refine h3.logs hg ?_ rfl rfl rfl rfl (fun k hk => .inl hk) ?_ ?_ hs' ?_
  · have := ((h3.blk.set_ 8 (.int .u64 0)).set_ 9 (.int .u64 0)).set_ 10 v
    rw [hv]
    rw [hv] at this
    simpa [NP.cells, hbase.1, hbase.2] using this
  · rintro k (hk | ⟨hn, rfl⟩)
    · exact h.low k hk
    · have := (her hn).1; have := h.size; omega
  · rintro k (hk | ⟨hn, rfl⟩)
    · have := h3.top k hk; simpa using this
    · have := (her hn).2; simpa using this
  · intro hn
    exact ⟨.inr ⟨hn, rfl⟩, fun hO => by have := h.top er hO; have := (her hn).1; omega⟩
/-- the node that is new comes to the others -/
theorem GrpP.more {H : Nat} {wz w6 w7 : World} {g b : Nat} {r : GR} {xs : List GN} {G : GP} {O' : Nat → Prop} {p' : NP} {x' : ND} {v7 : Value} (h : GrpP H wz g r xs G) (hb : Below wz.heap.size wz w6) (hN : NodeP H w6 O' b p' x') (hO : ∀ k, O' k → wz.heap.size ≤ k)
    (o4 : w7.ownsRow H 52 1 v7 (xs.length + 1) (xs.map GN.ptr ++ [.pointer (some ⟨b, 0, none⟩)])) (g4 : (w6.alloc (.cells #[.pointer (some ⟨b, 0, none⟩)] 52)).grownBy w7 r.nv.ownBlock) (a4 : v7.ownBlock = r.nv.ownBlock ∨ v7.ownBlock = some (w6.alloc (.cells #[.pointer (some ⟨b, 0, none⟩)] 52)).heap.size) :
    GrpP H (w7.setCell ⟨g, 0, none⟩ v7) g { r with nv := v7 } (xs ++ [⟨b, p', O', x'⟩]) { G with nodes := G.nodes ++ [x'] } ∧ Below H wz (w7.setCell ⟨g, 0, none⟩ v7) := by
  have h6 := h.after hb
  obtain ⟨k1, k2⟩ := h6.nodes_ ⟨b, p', O', x'⟩ hN (fun k hk hw => by have := h.W_lt k hw; have := hO k hk; omega) (fun z hz k hk hk' => by have := (h.node z hz).top k hk; have := hO k hk'; omega) (wq := w6.alloc (.cells #[.pointer (some ⟨b, 0, none⟩)] 52)) ((Below.refl _ w6).alloc (Nat.le_refl _) _)
    (by rw [List.map_append, List.length_append]; exact o4) g4 (by rcases a4 with a4 | a4; exact .inl a4; exact .inr fun k hk => by rw [a4] at hk; injection hk with hk; rw [← hk]; simp)
  refine ⟨k1, (hb.mono (Nat.le_trans h.hg (Nat.le_of_lt h.blk.lt))).trans (k2.toBelow (fun k hk => hk.elim (fun e => by rw [e]; exact h.hg) fun e => (h.nodes.lt k e).1) (Nat.le_trans h6.hg (Nat.le_of_lt h6.blk.lt)))⟩
def BegunPost (w : World) (many : Int) (n : Nat) (e : Ending) (w' : World) : Prop :=
  Below w.heap.size w w' ∧ ((¬ (1 ≤ many ∧ many ≤ 5 ∧ n ≤ 5) ∧ e = .returned (.pointer none)) ∨
      (1 ≤ many ∧ many ≤ 5 ∧ n ≤ 5 ∧ ∃ H g r xs E, e = .returned (.pointer (some ⟨g, 0, none⟩)) ∧ w.heap.size ≤ H ∧ Logs n E ∧ GrpP H w' g r xs (gpOf many.toNat E many.toNat)))
set_option maxRecDepth 100000 in
set_option maxHeartbeats 6400000 in
theorem begun_any (many : Int) (A : Option Addr) (n c : Nat) (vs : List Value) (w : World) (hn63 : n ≤ 9223372036854775807) (hs : LogsAt w A n c vs) :
    Calls Try.prog 44 #[.int .i64 many, .slice A n c] w (BegunPost w many n) := by
  by_cases h1 : many < 1
  · go_enter Try.func44, Try.ntmps44
    go_wp2
    go_ret
    exact ⟨Below.refl _ _, .inl ⟨by omega, rfl⟩⟩
  · by_cases h5 : 5 < many
    · go_enter Try.func44, Try.ntmps44
      go_wp2
      go_ret
      exact ⟨Below.refl _ _, .inl ⟨by omega, rfl⟩⟩
    · by_cases hn : 5 < n
      · have hn' : (5 : Int) < (n : Int) := by omega
        go_enter Try.func44, Try.ntmps44
        go_wp2
        go_ret
        exact ⟨Below.refl _ _, .inl ⟨by omega, rfl⟩⟩
      · have hn' : ¬ (5 : Int) < (n : Int) := by omega
        obtain ⟨M, rfl⟩ : ∃ M : Nat, many = (M : Int) := ⟨many.toNat, by omega⟩
        have hM : M ≤ 5 := by omega
        obtain ⟨i0, hi0, hz0, hz1, hz2⟩ := info_parts int_info
        obtain ⟨j0, hj0, hy0, hy1, hy2⟩ := info_parts ptr_info
        have HS := Lib.hid hs
        clear hs
        go_enter Try.func44, Try.ntmps44
        go_wp2
        go_loopw [5, 6] (fun cv ii wr => ∃ (k : Nat), k ≤ M ∧ ii = .int .i64 k ∧ wr.ownsRow w.heap.size 3 1 cv k ((confOf k).map iv) ∧ Below w.heap.size w wr) (fun _ ii _ => M - (intOf ii).toNat)
        case atStart => exact ⟨0, Nat.zero_le _, rfl, by show w.ownsRow _ _ _ (.slice none 0 0) 0 []; exact World.ownsRow_nil _ _ _ _, Below.refl _ _⟩
        case round =>
          obtain ⟨k, hk, rfl, hrow, hb⟩ := hrel
          have HROW := Lib.hid hrow
          have HB := Lib.hid hb
          obtain ⟨Ac, cc, hcv, hsc⟩ := own_sl hrow
          subst hcv
          have HSC := Lib.hid hsc
          clear hrow hb hsc
          by_cases hkM : k < M
          · have hkM' : (k : Int) < (M : Int) := by omega
            go_wp2_with (at_builtin; refine wpList_app _ rfl (.tmp 26) (.tmp 28) 51 rfl w.heap.size 3 i0 _ 1 8 Try.underlying51 hi0 hz0 hz1 hz2 rfl (by omega) (.slice Ac k cc) k ((confOf k).map iv) rfl (by exact own_alloc' HROW.out _) wr.heap.size (wr.heap.size + 1) (some ⟨wr.heap.size, 0, none⟩) 1 1 [.int .i64 (k : Int)] rfl (by exact sl_one _ _ _) (by intro u hu; rw [List.mem_singleton.1 hu]; rfl) (by simp only [maxLen]; omega) (by omega) (by have := HB.out.size; simp; omega) ?_; intro v4 w4 o4 g4 a4)
            go_roundw
            case rel => exact ⟨k + 1, by omega, by first | rfl | go_num, by rw [range_iv]; exact o4, (HB.out.alloc HB.out.size _).grown g4 (by have := HB.out.size; simp; omega) fun bb hb => (HROW.out.lt bb hb).1⟩
            case measure => simp [intOf]; omega
          · have hkM' : ¬ (k : Int) < (M : Int) := by omega
            obtain rfl : M = k := by omega
            clear hk hkM
            obtain ⟨wq, hwq⟩ : ∃ wq, wq = wr := ⟨_, rfl⟩
            subst hwq
            have hkM' : ¬ (M : Int) < (M : Int) := by omega
            go_wp2
            have hg0 : GrpP wq.heap.size (wq.alloc (.cells #[.slice none 0 0, .slice none 0 0, .slice none 0 0, .slice none 0 0] 73)) wq.heap.size ⟨.slice none 0 0, .slice none 0 0, .slice none 0 0, .slice none 0 0⟩ [] (gpOf M (fun _ => []) 0) :=
              ⟨Blk.new wq _ _, World.ownsRow_nil _ _ _ _, World.ownsRow_nil _ _ _ _, World.ownsRow_nil _ _ _ _, World.ownsRow_nil _ _ _ _, Nat.le_refl _, rfl, fun y hy => (by cases hy), fun y hy => (by cases hy), List.Pairwise.nil⟩
            have HG0 := Lib.hid hg0
            clear hg0
            go_loopw [8] (fun ii wz => ∃ (j : Nat) (r : GR) (xs : List GN) (E : Nat → List Ent), j ≤ M ∧ ii = .int .i64 j ∧ Logs n E ∧ GrpP wq.heap.size wz wq.heap.size r xs (gpOf M E j) ∧ Below wq.heap.size wq wz) (fun ii _ => M - (intOf ii).toNat)
            case atStart => exact ⟨0, _, [], fun _ => [], Nat.zero_le _, rfl, ⟨fun _ => Nat.zero_le _, fun i e he => (by cases he), fun _ _ => rfl⟩, HG0.out, (Below.refl _ _).alloc (Nat.le_refl _) _⟩
            case round =>
              obtain ⟨j, r, xs, E, hj, rfl, hE, hG, hbz⟩ := hrel
              have HE := Lib.hid hE
              have HG := Lib.hid hG
              have HBZ := Lib.hid hbz
              have hsl := HSC.out.below hbz (Nat.le_refl _)
              have HNEW := Lib.hid (enew_any wq.heap.size j Ac M cc _ _ (confOf M) _ hsl (by omega) hbz.size)
              clear hE hG hbz hsl
              have hgb := HG.out.blk
              have gw0 : wr.cell? ⟨wq.heap.size, 0, none⟩ = some r.nv := hgb.cell 0
              have hgl := hgb.lt
              have HGW := Lib.hid hgb
              have hxl : xs.length = j := by rw [HG.out.len]; simp [gpOf]
              obtain ⟨An, cn, hnv, -⟩ := own_sl HG.out.nodes
              have hnn := hxl
              have HRN : Hid (wr.ownsRow wq.heap.size 52 1 (.slice An j cn) j (xs.map GN.ptr)) := by have := HG.out.nodes; rw [hnv, hnn] at this; exact this
              have HNG : Hid ((Value.slice An j cn).ownBlock ≠ some wq.heap.size) := by have := row_ne HG.out.nodes HG.out.blk (by decide); rw [hnv, hnn] at this; exact this
              rw [hnn] at hnv
              have HNL := Lib.hid hnn
              have HNV := Lib.hid hnv
              clear hgb hnn hnv hxl
              by_cases hjM : j < M
              · have hjM' : (j : Int) < (M : Int) := by omega
                go_wp2_with fail
                refine HNEW.out.mono ?_
                rintro e w2 ⟨b, p, O, rfl, hN2, hO2, hb2⟩
                have HN2 := Lib.hid hN2
                have HO2 := Lib.hid hO2
                have HB2 := Lib.hid hb2
                have hgw2 := HGW.out.after hb2
                have gx0 : w2.cell? ⟨wq.heap.size, 0, none⟩ = some r.nv := hgw2.cell 0
                rw [HNV.out] at gx0
                have hbw : wr.heap.size ≤ b := hO2 b hN2.bO
                have hbl := hN2.blk.lt
                clear hgw2 hN2 hO2 hb2 HNEW
                by_cases hjn : j < n
                · have hjn' : (j : Int) < (n : Int) := by omega
                  have hbw2 : Below w.heap.size w w2 := (HB.out.trans (HBZ.out.mono HB.out.size)).trans (HB2.out.mono (Nat.le_trans HB.out.size HBZ.out.size))
                  obtain ⟨ad, A', n', c', lo, hi, us, hA, hcell, hsl⟩ := (HS.out.after hbw2).at_ hjn
                  subst hA
                  have HLOG := Lib.hid (log_any A' n' c' lo hi us w2 hsl)
                  clear hsl hbw2
                  go_wp2_with fail
                  refine HLOG.out.mono ?_
                  rintro e w3 ⟨v, es, rfl, hrow, hes6, hes100, hb3⟩
                  obtain ⟨er, Ae, ce, hve, hN4, hs4, her⟩ := fresh_logged HN2.out hb3 ⟨rfl, rfl⟩ hrow
                  subst hve
                  have hB3 := HN2.out.blk.after hb3
                  have y6 : w3.cell? ⟨b, 6, none⟩ = some (.int .u64 0) := hB3.cell 6
                  have y8 : w3.cell? ⟨b, 8, none⟩ = some (.int .u64 0) := hB3.cell 8
                  have y9 : w3.cell? ⟨b, 9, none⟩ = some (.int .u64 0) := hB3.cell 9
                  have y10 : w3.cell? ⟨b, 10, none⟩ = some (.slice p.eA 0 p.ec) := hB3.cell 10
                  have f8 := hB3.frozen 8
                  have f9 := hB3.frozen 9
                  have f10 := hB3.frozen 10
                  have HN4 := Lib.hid hN4
                  have HS4 := Lib.hid hs4
                  have HER := Lib.hid her
                  have HES6 := Lib.hid hes6
                  have HES := Lib.hid hes100
                  have HB3 := Lib.hid hb3
                  clear hN4 hs4 her hrow hes100 hb3 hB3
                  go_wp2_with fail
                  refine (lastTerm_any 0 0 es.length ce er (er + 1) Ae es _ HS4.out (by decide) (by omega)).mono ?_
                  rintro e w5 ⟨rfl, hb5⟩
                  have hN5 := HN4.out.after hb5
                  have hB5 := hN5.blk
                  have z6 : w5.cell? ⟨b, 6, none⟩ = some (.int .u64 0) := hB5.cell 6
                  have f6 := hB5.frozen 6
                  have hbw4 : Below wr.heap.size wr (((w3.setCell ⟨b, 8, none⟩ (.int .u64 0)).setCell ⟨b, 9, none⟩ (.int .u64 0)).setCell ⟨b, 10, none⟩ (.slice Ae es.length ce)) := (((HB2.out.trans (HB3.out.mono HB2.out.size)).setCell (p := ⟨b, 8, none⟩) hbw _).setCell (p := ⟨b, 9, none⟩) hbw _).setCell (p := ⟨b, 10, none⟩) hbw _
                  have hbw6 : Below wr.heap.size wr (w5.setCell ⟨b, 6, none⟩ (.int .u64 (lastTerm 0 0 es : Nat))) := (hbw4.trans (hb5.mono hbw4.size)).setCell (p := ⟨b, 6, none⟩) hbw _
                  have hN6 : NodeP wq.heap.size (w5.setCell ⟨b, 6, none⟩ (.int .u64 (lastTerm 0 0 es : Nat))) (fun k => O k ∨ (0 < es.length ∧ k = er)) b { p with eA := Ae, ec := ce, er := er } { ND.fresh (j : Int) (confOf M) with es := es, term := lastTerm 0 0 es } :=
                    hN5.put (only_setCell (World.grownBy.refl w5 (some b)) 6 _) (by have := hB5.set_ 6 (.int .u64 (lastTerm 0 0 es : Nat)); simpa [NP.cells] using this) rfl rfl rfl rfl rfl
                  have HB6 := Lib.hid hbw6
                  have HN6 := Lib.hid hN6
                  have HO6 : Hid (∀ k, (O k ∨ (0 < es.length ∧ k = er)) → wr.heap.size ≤ k) := by
                    rintro k (hk | ⟨hn, rfl⟩)
                    · exact HO2.out k hk
                    · exact Nat.le_trans HB2.out.size (HER.out hn)
                  obtain ⟨EE, hEE⟩ : ∃ EE : Nat → List Ent, EE = fun q => if q = j then es else E q := ⟨_, rfl⟩
                  have hEj : EE j = es := by rw [hEE]; simp
                  have hEq : ∀ q, q < j → EE q = E q := fun q hq => by rw [hEE]; simp; omega
                  have HE6 : Hid (Logs n EE) := by
                    rw [hEE]
                    refine ⟨fun i => ?_, fun i e he => ?_, fun i hi => ?_⟩
                    · split; exact HES6.out; exact HE.out.few i
                    · split at he; exact HES.out e he; exact HE.out.small i e he
                    · rw [if_neg (by omega)]; exact HE.out.none_ i hi
                  have HGE : Hid ({ gpOf M E j with nodes := (gpOf M E j).nodes ++ [{ ND.fresh (j : Int) (confOf M) with es := es, term := lastTerm 0 0 es }] } = ({ gpOf M EE j with nodes := (gpOf M EE j).nodes ++ [ndOf M EE j] } : GP)) := by
                    show _ = _
                    rw [gpOf_same hEq]
                    unfold ndOf
                    rw [hEj]
                  clear hN5 hB5 hbw4 hbw6 hN6 hEE hEj hEq
                  go_upto_region 18 with fail
                  generalize hw6 : w5.setCell ⟨b, 6, none⟩ (.int .u64 (lastTerm 0 0 es : Nat)) = w6 at HB6 HN6 ⊢
                  clear hw6
                  have gx6 : w6.cell? ⟨wq.heap.size, 0, none⟩ = some (.slice An j cn) := by have := (HGW.out.after HB6.out).cell 0; rw [show r.cells[0]? = some r.nv from rfl, HNV.out] at this; exact this
                  have HRN6 : Hid (w6.ownsRow wq.heap.size 52 1 (.slice An j cn) j (xs.map GN.ptr)) := own_after HRN.out HB6.out
                  go_wp2_with (at_builtin; refine wpList_app _ rfl (.tmp 66) (.tmp 68) 71 rfl wq.heap.size 52 j0 _ 1 8 Try.underlying71 hj0 hy0 hy1 hy2 rfl (by omega) (.slice An j cn) j (xs.map GN.ptr) rfl (by exact own_alloc' HRN6.out _) w6.heap.size (w6.heap.size + 1) (some ⟨w6.heap.size, 0, none⟩) 1 1 [.pointer (some ⟨b, 0, none⟩)] rfl (by exact sl_one _ _ _) (by intro u hu; rw [List.mem_singleton.1 hu]; rfl) (by simp only [maxLen]; omega) (by omega) (by have := HBZ.out.size; have := HB6.out.size; simp; omega) ?_; intro v7 w7 o7 g7 a7; have hb7 := Blk.grown ((HGW.out.after HB6.out).alloc _) g7 (fun e => HNG.out e.symm); have s0 : w7.cell? ⟨wq.heap.size, 0, none⟩ = some r.nv := hb7.cell 0; have sf0 := hb7.frozen 0; obtain ⟨A7, c7, hv7, -⟩ := own_sl o7; subst hv7; clear hb7)
                  obtain ⟨k1, k2⟩ := HG.out.more HB6.out HN6.out HO6.out (by rw [HNL.out]; exact o7) (by rw [HNV.out]; exact g7) (by rw [HNV.out]; exact a7)
                  go_roundw
                  case rel => exact ⟨j + 1, _, _, EE, by omega, by first | rfl | go_num, HE6.out, by rw [gpOf_succ, ← HGE.out]; exact k1, HBZ.out.trans k2⟩
                  case measure => simp [intOf]; omega
                · have hjn' : ¬ (j : Int) < (n : Int) := by omega
                  have hEj : E j = [] := HE.out.none_ j (by omega)
                  have HGE : Hid ({ gpOf M E j with nodes := (gpOf M E j).nodes ++ [ND.fresh (j : Int) (confOf M)] } = ({ gpOf M E j with nodes := (gpOf M E j).nodes ++ [ndOf M E j] } : GP)) := by
                    show _ = _
                    unfold ndOf
                    rw [hEj]
                    rfl
                  have HE6 := HE
                  have HB6 := HB2
                  have HN6 := HN2
                  have HO6 := HO2
                  clear hEj gx0
                  go_upto_region 18 with fail
                  have gx6 : w2.cell? ⟨wq.heap.size, 0, none⟩ = some (.slice An j cn) := by have := (HGW.out.after HB6.out).cell 0; rw [show r.cells[0]? = some r.nv from rfl, HNV.out] at this; exact this
                  have HRN6 : Hid (w2.ownsRow wq.heap.size 52 1 (.slice An j cn) j (xs.map GN.ptr)) := own_after HRN.out HB6.out
                  go_wp2_with (at_builtin; refine wpList_app _ rfl (.tmp 66) (.tmp 68) 71 rfl wq.heap.size 52 j0 _ 1 8 Try.underlying71 hj0 hy0 hy1 hy2 rfl (by omega) (.slice An j cn) j (xs.map GN.ptr) rfl (by exact own_alloc' HRN6.out _) w2.heap.size (w2.heap.size + 1) (some ⟨w2.heap.size, 0, none⟩) 1 1 [.pointer (some ⟨b, 0, none⟩)] rfl (by exact sl_one _ _ _) (by intro u hu; rw [List.mem_singleton.1 hu]; rfl) (by simp only [maxLen]; omega) (by omega) (by have := HBZ.out.size; have := HB6.out.size; simp; omega) ?_; intro v7 w7 o7 g7 a7; have hb7 := Blk.grown ((HGW.out.after HB6.out).alloc _) g7 (fun e => HNG.out e.symm); have s0 : w7.cell? ⟨wq.heap.size, 0, none⟩ = some r.nv := hb7.cell 0; have sf0 := hb7.frozen 0; obtain ⟨A7, c7, hv7, -⟩ := own_sl o7; subst hv7; clear hb7)
                  obtain ⟨k1, k2⟩ := HG.out.more HB6.out HN6.out HO6.out (by rw [HNL.out]; exact o7) (by rw [HNV.out]; exact g7) (by rw [HNV.out]; exact a7)
                  go_roundw
                  case rel => exact ⟨j + 1, _, _, E, by omega, by first | rfl | go_num, HE6.out, by rw [gpOf_succ, ← HGE.out]; exact k1, HBZ.out.trans k2⟩
                  case measure => simp [intOf]; omega
              · have hjM' : ¬ (j : Int) < (M : Int) := by omega
                obtain rfl : M = j := by omega
                clear HNEW hjM
                go_wp2
                go_ret
                refine ⟨HB.out.trans (HBZ.out.mono HB.out.size), .inr ⟨h1, h5, by omega, wq.heap.size, wq.heap.size, r, xs, E, rfl, HB.out.size, HE.out, ?_⟩⟩
                exact HG.out
end Go.Proofs.Ytbgdepaffgeinaa
