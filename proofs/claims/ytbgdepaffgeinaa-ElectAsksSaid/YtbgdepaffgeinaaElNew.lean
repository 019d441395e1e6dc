/- Other messages; a new node. -/
import Derived.Test.YtbgdepaffgeinaaElAnsR
import Derived.Test.YtbgdepaffgeinaaElOnAsk
namespace Go.Proofs.Ytbgdepaffgeinaa
open Go.RowKit
section
variable {H : Nat} {O : Nat → Prop} {b : Nat} {p : NP} {x : ND}
set_option maxRecDepth 100000 in
set_option maxHeartbeats 1600000 in
theorem onAns_no (k f d : Int) (t i q : Nat) (c : Value) (ok : Bool) (D E : Value) (w : World) (h : NodeP H w O b p x) (h2 : k ≠ 2) (h4 : k ≠ 4) :
    Calls Try.prog 48 #[.pointer (some ⟨b, 0, none⟩), mval k f d t i q c ok D E] w fun e w' => ∃ v, e = .returned v ∧ v = .slice none 0 0 ∧ Sent H w w' O b v (x.onAnswer k f t ok) ∧ Below w.heap.size w w' := by
  have hE : x.onAnswer k f t ok = (x, []) := by unfold ND.onAnswer; rw [if_neg (by omega)]
  rw [hE]
  have e2 : (k != 2) = true := by simp [h2]
  have e4 : (k != 4) = true := by simp [h4]
  have HH := Lib.hid h
  clear h hE
  unfold mval
  go_enter Try.func48, Try.ntmps48
  go_wp2
  go_ret
  exact ⟨_, rfl, rfl, Sent.none_ (HH.out.after ((Below.refl _ w).alloc (Nat.le_refl _) _)) (Sub.refl _ _) (Chg.below ((Below.refl _ w).alloc (Nat.le_refl _) _)), (Below.refl _ w).alloc (Nat.le_refl _) _⟩
set_option maxRecDepth 100000 in
set_option maxHeartbeats 1600000 in
theorem onAsk_no (k f d : Int) (t i q : Nat) (c : Value) (ok : Bool) (D E : Value) (w : World) (h : NodeP H w O b p x) (h2 : k ≠ 1) (h4 : k ≠ 3) :
    Calls Try.prog 47 #[.pointer (some ⟨b, 0, none⟩), mval k f d t i q c ok D E] w fun e w' => e = .returned (.slice none 0 0) ∧ NodeP H w' O b p x ∧ Below w.heap.size w w' := by
  have e2 : (k == 1) = false := by simp [h2]
  have e4 : (k == 3) = false := by simp [h4]
  have hB := h.blk
  have x0 : w.cell? ⟨b, 0, none⟩ = some (.int .i64 x.me) := hB.cell 0
  have hbl := hB.lt
  have hne : b ≠ w.heap.size := by omega
  have HH := Lib.hid h
  clear h hB
  unfold mval
  go_enter Try.func47, Try.ntmps47
  go_wp2
  have B3 := Blk.new w 81 (mrow k f d t i q c ok D E)
  have y0 := cell_below ((Below.refl w.heap.size w).alloc (Nat.le_refl _) (.cells (mrow k f d t i q c ok D E) 81)) x0
  have A1 : Aft w _ := (Aft.refl w).alloc (.cells (mrow k f d t i q c ok D E) 81)
  unfold mrow at B3 y0 A1
  generalize hwb : w.alloc (.cells #[.int .i64 k, .int .i64 f, .int .i64 d, .int .u64 (t : Int), .int .u64 (i : Int), .int .u64 (q : Int), c, .bool ok, D, E] 81) = wb at B3 y0 A1 ⊢
  have m1 : wb.cell? ⟨w.heap.size, 1, none⟩ = some (.int .i64 f) := B3.cell 1
  have hlt3 : w.heap.size < wb.heap.size := B3.lt
  have hn1 : b ≠ wb.heap.size := by omega
  have hn2 : w.heap.size ≠ wb.heap.size := by omega
  have HB3 := Lib.hid B3
  have HA1 := Lib.hid A1
  clear hwb B3 A1
  go_cut [5] (fun v wc => v = .pointer (some ⟨wb.heap.size, 0, none⟩) ∧ Aft wb wc)
  case first =>
    go_region_held3 (fun W' => W'.cell? ⟨b, 0, none⟩ = some (.int .i64 x.me) ∧ W'.cell? ⟨w.heap.size, 1, none⟩ = some (.int .i64 f)) (first | exact ⟨y0, m1⟩ | go_keep) (fail)
    all_goals
      go_wp2
      go_meet
      exact ⟨rfl, ((Aft.refl wb).alloc _).drew⟩
  case rest =>
    obtain ⟨rfl, hA⟩ := hcut
    have c0 : wc.cell? ⟨w.heap.size, 0, none⟩ = some (.int .i64 k) := (HB3.out.after hA).cell 0
    have hAw : Aft w wc := Aft.call HA1.out hA
    have HAW := Lib.hid hAw
    clear hA hAw y0 m1
    go_wp2
    go_ret
    exact ⟨rfl, HH.out.after HAW.out, HAW.out⟩
end
theorem made_one (z : Value) (hz : z.cells = #[z]) (n : Nat) : (madeCells z.cells (n * 1)).toList = List.replicate n z := by
  rw [hz, Nat.mul_one]
  apply List.ext_getElem
  · simp [madeCells]
  · intro i h1 h2
    simp [madeCells, Nat.mod_one]
theorem own_of_blk {w : World} {b : Nat} {e : TypeId} {U : Array Value} {n : Nat} {xs : List Value} (h : Blk w b e U) (hl : U.toList = xs) (hn : xs.length = n) (hm : n ≤ maxLen) : w.ownsRow 0 e 1 (.slice (some ⟨b, 0, none⟩) n n) n xs := by
  have hs : U.size = n := by rw [← Array.length_toList, hl, hn]
  refine ⟨by rw [hn, Nat.mul_one], .inr ⟨b, n, U, rfl, Nat.zero_le _, h, Nat.le_refl _, hm, by rw [hs, Nat.mul_one], ?_⟩⟩
  rw [hl]
  exact List.take_of_length_le (by rw [hn, Nat.mul_one]; exact Nat.le_refl _)
theorem u64_info : (Try.prog.info? 22).map (fun i => (i.zero, i.size, i.bytes)) = some (some (.int .u64 0), 1, 8) := by kernel_rfl
def ND.fresh (me : Int) (conf : List Int) : ND := ⟨me, -1, 0, -1, conf, [], 0, 0, 0, [], false, List.replicate 16 0, List.replicate 16 0⟩
/-- a node that is new, out of its parts -/
theorem fresh_node {H : Nat} {W : World} {b gn gm n c me' : Nat} {A : Option Addr} {me : Int} {xs : List Int} {U : Array Value} (hU : U.toList = List.replicate 16 (.int .u64 0)) (hxs : xs.length = n)
    (hB : Blk W b 75 #[.int .i64 me, .int .i64 (-1), .int .i64 0, .int .i64 (-1), .slice A n c, .slice none 0 0, .int .u64 0, .int .u64 0, .int .u64 0, .int .u64 0, .slice none 0 0, .bool false, .slice (some ⟨gn, 0, none⟩) 16 16, .slice (some ⟨gm, 0, none⟩) 16 16])
    (hc : W.ownsRow me' 3 1 (.slice A n c) n (xs.map iv)) (hn : Blk W gn 22 U) (hm : Blk W gm 22 U) (hne : gn ≠ gm) (hHc : H ≤ me') (hHb : H ≤ b) (hHn : H ≤ gn) (hHm : H ≤ gm) :
    NodeP H W (fun k => k = b ∨ (Value.slice A n c).ownBlock = some k ∨ k = gn ∨ k = gm) b ⟨A, c, .slice none 0 0, none, 0, 0, .slice (some ⟨gn, 0, none⟩) 16 16, .slice (some ⟨gm, 0, none⟩) 16 16⟩ (ND.fresh me xs) := by
  have hl : (List.replicate 16 0).map uv = List.replicate 16 (.int .u64 0) := rfl
  refine ⟨?_, ?_, .inl rfl, ?_, ?_, ?_, World.ownsRow_nil _ _ _ _, (fun k hk => by cases hk), ?_, ?_, ?_, ?_, Sl.nil_ _ _ _ _, fun h => absurd h (Nat.lt_irrefl 0)⟩
  · rintro k (rfl | hk | rfl | rfl)
    · exact hHb
    · have := (hc.lt k hk).1; omega
    · exact hHn
    · exact hHm
  · rintro k (rfl | hk | rfl | rfl)
    · exact hB.lt
    · exact (hc.lt k hk).2
    · exact hn.lt
    · exact hm.lt
  · show Blk W b 75 #[.int .i64 me, .int .i64 (-1), .int .i64 0, .int .i64 (-1), .slice A xs.length c, .slice none 0 0, .int .u64 0, .int .u64 0, .int .u64 0, .int .u64 0, .slice none 0 0, .bool false, .slice (some ⟨gn, 0, none⟩) 16 16, .slice (some ⟨gm, 0, none⟩) 16 16]
    rw [hxs]; exact hB
  · show W.ownsRow 0 3 1 (.slice A xs.length c) xs.length (xs.map iv)
    rw [hxs]; exact own_wide hc (Nat.zero_le _)
  · intro k hk
    have hk' : (Value.slice A xs.length c).ownBlock = some k := hk
    rw [hxs] at hk'
    exact ⟨.inr (.inl hk'), fun h => by cases h⟩
  · exact own_of_blk hn (hU.trans hl.symm) rfl (by simp [maxLen])
  · intro k hk
    have e : gn = k := by simpa [Value.ownBlock] using hk
    subst e
    exact ⟨.inr (.inr (.inl rfl)), fun h => hne (by have : gm = gn := by simpa [Value.ownBlock] using h
                                                    exact this.symm)⟩
  · exact own_of_blk hm (hU.trans hl.symm) rfl (by simp [maxLen])
  · intro k hk
    have e : gm = k := by simpa [Value.ownBlock] using hk
    subst e
    exact .inr (.inr (.inr rfl))
set_option maxRecDepth 100000 in
set_option maxHeartbeats 3200000 in
theorem enew_any (H : Nat) (me : Int) (A : Option Addr) (n c lo hi : Nat) (xs : List Int) (w : World) (hs : Sl w lo hi 1 A n c (xs.map iv)) (hn : n ≤ 1000) (hH : H ≤ w.heap.size) :
    Calls Try.prog 39 #[.int .i64 me, .slice A n c] w fun e w' => ∃ b p O, e = .returned (.pointer (some ⟨b, 0, none⟩)) ∧ NodeP H w' O b p (ND.fresh me xs) ∧ (∀ k, O k → w.heap.size ≤ k) ∧ Below w.heap.size w w' := by
  have HCL : Hid (∀ W, Aft w W → Calls Try.prog 59 #[.slice A n c] W fun e w' => ∃ v, e = .returned v ∧ w'.ownsRow W.heap.size 3 1 v n (xs.map iv) ∧ Below W.heap.size W w') := fun W hW => iclone_any A n c lo hi xs W (hs.after (by decide) hW) (by omega)
  obtain ⟨i0, hi0, hz0, hz1, hz2⟩ := info_parts u64_info
  obtain ⟨U, hUs, hU⟩ : ∃ U : Array Value, U.toList = List.replicate 16 (.int .u64 0) ∧ ∀ W : World, (Instr.makeSlice 70 (.int .i64 16) (.int .i64 16)).run Try.prog W = .ok (.slice (some ⟨W.heap.size, 0, none⟩) 16 16) (W.alloc (.cells U 22)) := ⟨madeCells (Value.int .u64 0).cells (16 * 1), made_one _ rfl 16, fun W => by
    have := run_makeSlice (P := Try.prog) W 70 22 i0 _ Try.underlying70 hi0 hz0 .i64 .i64 16 16 (by omega) (Int.le_refl _) (by rw [hz1]; simp) (by rw [hz2]; omega) (by omega)
    simpa [hz1] using this⟩
  have HUS := Lib.hid hUs
  clear hi0 hz0 hz1 hz2 hUs
  have hA0 : Aft w w := Aft.refl w
  have hA1 : Aft w w.drew := hA0.drew
  have HXL := Lib.hid (ilen hs)
  clear hs
  go_enter Try.func39, Try.ntmps39
  go_wp2
  go_region_held3 (fun W' => Aft w W') (with_reducible first | exact hA1 | assumption | exact Aft.alloc (by assumption) _ | exact Aft.drew (by assumption) | exact Aft.drew (Aft.alloc hA0 _) | exact Aft.drew (Aft.alloc (Aft.alloc hA0 _) _)) (first
    | (go_at_call 59; refine (HCL.out _ (by with_reducible assumption)).mono ?_; rintro e w4 ⟨v, rfl, hown, hb4⟩; obtain ⟨A4, c4, hv4, -⟩ := own_sl hown; subst hv4; have ha4 : Aft w w4 := Aft.call (by with_reducible assumption) hb4))
  all_goals
    go_wp2
    go_ret
    first
    | (have _e4 : Below (w.drew).heap.size (w.drew) w4 := hb4
       have q1 : Blk ((w4.alloc (.cells U 22)).alloc (.cells U 22)) (w4.heap.size) 22 U := ((Blk.new w4 22 U).alloc (.cells U 22))
       have q2 : Blk ((w4.alloc (.cells U 22)).alloc (.cells U 22)) (w4.heap.size + 1) 22 U := (by have := Blk.new (w4.alloc (.cells U 22)) 22 U; rw [alloc_size] at this; exact this)
       have qr := own_alloc' (own_alloc' hown (.cells U 22)) (.cells U 22)
       have qs : ((w4.alloc (.cells U 22)).alloc (.cells U 22)).heap.size = w4.heap.size + 1 + 1 := by rw [alloc_size, alloc_size]
       have qb := Blk.new ((w4.alloc (.cells U 22)).alloc (.cells U 22)) 75 #[.int .i64 me, .int .i64 (-1), .int .i64 0, .int .i64 (-1), .slice A4 n c4, .slice none 0 0, .int .u64 0, .int .u64 0, .int .u64 0, .int .u64 0, .slice none 0 0, .bool false, .slice (some ⟨w4.heap.size, 0, none⟩) 16 16, .slice (some ⟨w4.heap.size + 1, 0, none⟩) 16 16]
       rw [qs] at qb
       have hsz : (w.drew).heap.size ≤ w4.heap.size := _e4.size
       have hwz : w.heap.size ≤ w4.heap.size := ha4.size
       have hl1 := q1.lt
       have hl2 := q2.lt
       have hne : ¬ (w4.heap.size) = (w4.heap.size + 1) := by first | omega | (simp at hsz; omega)
       have hH2 : H ≤ (w.drew).heap.size := by simp; omega
       have hw2 : w.heap.size ≤ (w.drew).heap.size := by first | exact Nat.le_refl _ | (simp; done) | (simp; omega)
       have r := fresh_node (H := H) HUS.out HXL.out qb (own_alloc' qr _) (q1.alloc _) (q2.alloc _) hne hH2 (by omega) (by omega) (by omega)
       refine ⟨_, _, _, rfl, r, ?_, ?_⟩
       · rintro k (rfl | hk | rfl | rfl)
         · omega
         · have := (hown.lt k hk).1; omega
         · omega
         · omega
       · (show Aft w _; with_reducible assumption))
    | (have _e4 : Below (w.drew).heap.size (w.drew) w4 := hb4
       have q1 : Blk ((w4.alloc (.cells U 22)).alloc (.cells U 22)) (w4.heap.size) 22 U := ((Blk.new w4 22 U).alloc (.cells U 22))
       have q2 : Blk ((w4.alloc (.cells U 22)).alloc (.cells U 22)) (w4.heap.size + 1) 22 U := (by have := Blk.new (w4.alloc (.cells U 22)) 22 U; rw [alloc_size] at this; exact this)
       have qr := own_alloc' (own_alloc' hown (.cells U 22)) (.cells U 22)
       have qs : ((w4.alloc (.cells U 22)).alloc (.cells U 22)).heap.size = w4.heap.size + 1 + 1 := by rw [alloc_size, alloc_size]
       have qb := Blk.new ((w4.alloc (.cells U 22)).alloc (.cells U 22)) 75 #[.int .i64 me, .int .i64 (-1), .int .i64 0, .int .i64 (-1), .slice A4 n c4, .slice none 0 0, .int .u64 0, .int .u64 0, .int .u64 0, .int .u64 0, .slice none 0 0, .bool false, .slice (some ⟨w4.heap.size + 1, 0, none⟩) 16 16, .slice (some ⟨w4.heap.size, 0, none⟩) 16 16]
       rw [qs] at qb
       have hsz : (w.drew).heap.size ≤ w4.heap.size := _e4.size
       have hwz : w.heap.size ≤ w4.heap.size := ha4.size
       have hl1 := q1.lt
       have hl2 := q2.lt
       have hne : ¬ (w4.heap.size + 1) = (w4.heap.size) := by first | omega | (simp at hsz; omega)
       have hH2 : H ≤ (w.drew).heap.size := by simp; omega
       have hw2 : w.heap.size ≤ (w.drew).heap.size := by first | exact Nat.le_refl _ | (simp; done) | (simp; omega)
       have r := fresh_node (H := H) HUS.out HXL.out qb (own_alloc' qr _) (q2.alloc _) (q1.alloc _) hne hH2 (by omega) (by omega) (by omega)
       refine ⟨_, _, _, rfl, r, ?_, ?_⟩
       · rintro k (rfl | hk | rfl | rfl)
         · omega
         · have := (hown.lt k hk).1; omega
         · omega
         · omega
       · (show Aft w _; with_reducible assumption))
    | (have _e4 : Below ((w.alloc (.cells U 22)).drew).heap.size ((w.alloc (.cells U 22)).drew) w4 := hb4
       have q1 : Blk (w4.alloc (.cells U 22)) (w.heap.size) 22 U := ((((Blk.new w 22 U).drew).after hb4).alloc (.cells U 22))
       have q2 : Blk (w4.alloc (.cells U 22)) (w4.heap.size) 22 U := (Blk.new w4 22 U)
       have qr := own_alloc' hown (.cells U 22)
       have qs : (w4.alloc (.cells U 22)).heap.size = w4.heap.size + 1 := by rw [alloc_size]
       have qb := Blk.new (w4.alloc (.cells U 22)) 75 #[.int .i64 me, .int .i64 (-1), .int .i64 0, .int .i64 (-1), .slice A4 n c4, .slice none 0 0, .int .u64 0, .int .u64 0, .int .u64 0, .int .u64 0, .slice none 0 0, .bool false, .slice (some ⟨w.heap.size, 0, none⟩) 16 16, .slice (some ⟨w4.heap.size, 0, none⟩) 16 16]
       rw [qs] at qb
       have hsz : ((w.alloc (.cells U 22)).drew).heap.size ≤ w4.heap.size := _e4.size
       have hwz : w.heap.size ≤ w4.heap.size := ha4.size
       have hl1 := q1.lt
       have hl2 := q2.lt
       have hne : ¬ (w.heap.size) = (w4.heap.size) := by first | omega | (simp at hsz; omega)
       have hH2 : H ≤ ((w.alloc (.cells U 22)).drew).heap.size := by simp; omega
       have hw2 : w.heap.size ≤ ((w.alloc (.cells U 22)).drew).heap.size := by first | exact Nat.le_refl _ | (simp; done) | (simp; omega)
       have r := fresh_node (H := H) HUS.out HXL.out qb (own_alloc' qr _) (q1.alloc _) (q2.alloc _) hne hH2 (by omega) (by omega) (by omega)
       refine ⟨_, _, _, rfl, r, ?_, ?_⟩
       · rintro k (rfl | hk | rfl | rfl)
         · omega
         · have := (hown.lt k hk).1; omega
         · omega
         · omega
       · (show Aft w _; with_reducible assumption))
    | (have _e4 : Below ((w.alloc (.cells U 22)).drew).heap.size ((w.alloc (.cells U 22)).drew) w4 := hb4
       have q1 : Blk (w4.alloc (.cells U 22)) (w.heap.size) 22 U := ((((Blk.new w 22 U).drew).after hb4).alloc (.cells U 22))
       have q2 : Blk (w4.alloc (.cells U 22)) (w4.heap.size) 22 U := (Blk.new w4 22 U)
       have qr := own_alloc' hown (.cells U 22)
       have qs : (w4.alloc (.cells U 22)).heap.size = w4.heap.size + 1 := by rw [alloc_size]
       have qb := Blk.new (w4.alloc (.cells U 22)) 75 #[.int .i64 me, .int .i64 (-1), .int .i64 0, .int .i64 (-1), .slice A4 n c4, .slice none 0 0, .int .u64 0, .int .u64 0, .int .u64 0, .int .u64 0, .slice none 0 0, .bool false, .slice (some ⟨w4.heap.size, 0, none⟩) 16 16, .slice (some ⟨w.heap.size, 0, none⟩) 16 16]
       rw [qs] at qb
       have hsz : ((w.alloc (.cells U 22)).drew).heap.size ≤ w4.heap.size := _e4.size
       have hwz : w.heap.size ≤ w4.heap.size := ha4.size
       have hl1 := q1.lt
       have hl2 := q2.lt
       have hne : ¬ (w4.heap.size) = (w.heap.size) := by first | omega | (simp at hsz; omega)
       have hH2 : H ≤ ((w.alloc (.cells U 22)).drew).heap.size := by simp; omega
       have hw2 : w.heap.size ≤ ((w.alloc (.cells U 22)).drew).heap.size := by first | exact Nat.le_refl _ | (simp; done) | (simp; omega)
       have r := fresh_node (H := H) HUS.out HXL.out qb (own_alloc' qr _) (q2.alloc _) (q1.alloc _) hne hH2 (by omega) (by omega) (by omega)
       refine ⟨_, _, _, rfl, r, ?_, ?_⟩
       · rintro k (rfl | hk | rfl | rfl)
         · omega
         · have := (hown.lt k hk).1; omega
         · omega
         · omega
       · (show Aft w _; with_reducible assumption))
    | (have _e4 : Below (((w.alloc (.cells U 22)).alloc (.cells U 22)).drew).heap.size (((w.alloc (.cells U 22)).alloc (.cells U 22)).drew) w4 := hb4
       have q1 : Blk (w4) (w.heap.size) 22 U := ((((Blk.new w 22 U).alloc (.cells U 22)).drew).after hb4)
       have q2 : Blk (w4) (w.heap.size + 1) 22 U := ((by have := Blk.new (w.alloc (.cells U 22)) 22 U; rw [alloc_size] at this; exact this : Blk ((w.alloc (.cells U 22)).alloc (.cells U 22)) (w.heap.size + 1) 22 U).drew.after hb4)
       have qr := hown
       have qs : (w4).heap.size = w4.heap.size := by rfl
       have qb := Blk.new (w4) 75 #[.int .i64 me, .int .i64 (-1), .int .i64 0, .int .i64 (-1), .slice A4 n c4, .slice none 0 0, .int .u64 0, .int .u64 0, .int .u64 0, .int .u64 0, .slice none 0 0, .bool false, .slice (some ⟨w.heap.size, 0, none⟩) 16 16, .slice (some ⟨w.heap.size + 1, 0, none⟩) 16 16]
       rw [qs] at qb
       have hsz : (((w.alloc (.cells U 22)).alloc (.cells U 22)).drew).heap.size ≤ w4.heap.size := _e4.size
       have hwz : w.heap.size ≤ w4.heap.size := ha4.size
       have hl1 := q1.lt
       have hl2 := q2.lt
       have hne : ¬ (w.heap.size) = (w.heap.size + 1) := by first | omega | (simp at hsz; omega)
       have hH2 : H ≤ (((w.alloc (.cells U 22)).alloc (.cells U 22)).drew).heap.size := by simp; omega
       have hw2 : w.heap.size ≤ (((w.alloc (.cells U 22)).alloc (.cells U 22)).drew).heap.size := by first | exact Nat.le_refl _ | (simp; done) | (simp; omega)
       have r := fresh_node (H := H) HUS.out HXL.out qb (own_alloc' qr _) (q1.alloc _) (q2.alloc _) hne hH2 (by omega) (by omega) (by omega)
       refine ⟨_, _, _, rfl, r, ?_, ?_⟩
       · rintro k (rfl | hk | rfl | rfl)
         · omega
         · have := (hown.lt k hk).1; omega
         · omega
         · omega
       · (show Aft w _; with_reducible assumption))
    | (have _e4 : Below (((w.alloc (.cells U 22)).alloc (.cells U 22)).drew).heap.size (((w.alloc (.cells U 22)).alloc (.cells U 22)).drew) w4 := hb4
       have q1 : Blk (w4) (w.heap.size) 22 U := ((((Blk.new w 22 U).alloc (.cells U 22)).drew).after hb4)
       have q2 : Blk (w4) (w.heap.size + 1) 22 U := ((by have := Blk.new (w.alloc (.cells U 22)) 22 U; rw [alloc_size] at this; exact this : Blk ((w.alloc (.cells U 22)).alloc (.cells U 22)) (w.heap.size + 1) 22 U).drew.after hb4)
       have qr := hown
       have qs : (w4).heap.size = w4.heap.size := by rfl
       have qb := Blk.new (w4) 75 #[.int .i64 me, .int .i64 (-1), .int .i64 0, .int .i64 (-1), .slice A4 n c4, .slice none 0 0, .int .u64 0, .int .u64 0, .int .u64 0, .int .u64 0, .slice none 0 0, .bool false, .slice (some ⟨w.heap.size + 1, 0, none⟩) 16 16, .slice (some ⟨w.heap.size, 0, none⟩) 16 16]
       rw [qs] at qb
       have hsz : (((w.alloc (.cells U 22)).alloc (.cells U 22)).drew).heap.size ≤ w4.heap.size := _e4.size
       have hwz : w.heap.size ≤ w4.heap.size := ha4.size
       have hl1 := q1.lt
       have hl2 := q2.lt
       have hne : ¬ (w.heap.size + 1) = (w.heap.size) := by first | omega | (simp at hsz; omega)
       have hH2 : H ≤ (((w.alloc (.cells U 22)).alloc (.cells U 22)).drew).heap.size := by simp; omega
       have hw2 : w.heap.size ≤ (((w.alloc (.cells U 22)).alloc (.cells U 22)).drew).heap.size := by first | exact Nat.le_refl _ | (simp; done) | (simp; omega)
       have r := fresh_node (H := H) HUS.out HXL.out qb (own_alloc' qr _) (q2.alloc _) (q1.alloc _) hne hH2 (by omega) (by omega) (by omega)
       refine ⟨_, _, _, rfl, r, ?_, ?_⟩
       · rintro k (rfl | hk | rfl | rfl)
         · omega
         · have := (hown.lt k hk).1; omega
         · omega
         · omega
       · (show Aft w _; with_reducible assumption))
end Go.Proofs.Ytbgdepaffgeinaa
