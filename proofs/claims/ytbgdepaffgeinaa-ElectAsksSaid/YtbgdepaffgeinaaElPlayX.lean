/- One thing is done in a group, whatever it is. -/
import Derived.Test.YtbgdepaffgeinaaElPlayA
import Derived.Test.YtbgdepaffgeinaaElPlayB
import Derived.Test.YtbgdepaffgeinaaElPlayM
import Derived.Test.YtbgdepaffgeinaaElPlayH
import Derived.Test.YtbgdepaffgeinaaEzPlain
namespace Go.Proofs.Ytbgdepaffgeinaa
open Go.RowKit
section
variable {H : Nat} {w : World} {g : Nat} {r : GR} {xs : List GN} {G : GP}
set_option maxRecDepth 100000 in
set_option maxHeartbeats 1600000 in
/-- there is no such message -/
theorem play_far (k : Int) (w : World) (h : GrpP H w g r xs G) (hk : ¬ (0 ≤ k ∧ k < (G.msgs.length : Int))) :
    Calls Try.prog 45 #[.pointer (some ⟨g, 0, none⟩), .agg #[.int .i64 3, .int .i64 k]] w fun e w' => e = .returned (.tuple #[]) ∧ GrpP H w' g r xs G ∧ Below w.heap.size w w' := by
  have x0 : w.cell? ⟨g, 0, none⟩ = some r.nv := h.blk.cell 0
  have x1 : w.cell? ⟨g, 1, none⟩ = some r.mv := h.blk.cell 1
  obtain ⟨A, c, hv, -⟩ := own_sl h.nodes
  obtain ⟨Am, cm, hmv, -⟩ := own_sl h.msgs
  rw [hv] at x0
  rw [hmv] at x1
  have hgl := h.blk.lt
  have hne : g ≠ w.heap.size := by omega
  have HH := Lib.hid h
  clear h hv hmv
  generalize xs.length = n at x0
  generalize G.msgs.length = nm at x1 hk
  by_cases h0 : k < 0
  · go_enter Try.func45, Try.ntmps45
    go_wp2
    go_quiet (fail)
    go_wp2
    refine bodyPost_ret (results_none rfl _ _ _) rfl ?_
    exact ⟨rfl, HH.out.after (below_drewN ((Below.refl _ w).alloc (Nat.le_refl _) _) nq), below_drewN ((Below.refl _ w).alloc (Nat.le_refl _) _) nq⟩
  · have h1 : (nm : Int) ≤ k := by omega
    go_enter Try.func45, Try.ntmps45
    go_wp2
    go_quiet (fail)
    go_wp2
    refine bodyPost_ret (results_none rfl _ _ _) rfl ?_
    exact ⟨rfl, HH.out.after (below_drewN ((Below.refl _ w).alloc (Nat.le_refl _) _) nq), below_drewN ((Below.refl _ w).alloc (Nat.le_refl _) _) nq⟩
set_option maxRecDepth 100000 in
set_option maxHeartbeats 1600000 in
/-- the message is for nobody -/
theorem play_lost (k : Nat) (m : Ms) (w : World) (h : GrpP H w g r xs G) (hkm : G.msgs[k]? = some m) (hd : ¬ (0 ≤ m.dst ∧ m.dst < (xs.length : Int))) :
    Calls Try.prog 45 #[.pointer (some ⟨g, 0, none⟩), .agg #[.int .i64 3, .int .i64 (k : Int)]] w fun e w' => e = .returned (.tuple #[]) ∧ GrpP H w' g r xs G ∧ Below w.heap.size w w' := by
  have x0 : w.cell? ⟨g, 0, none⟩ = some r.nv := h.blk.cell 0
  obtain ⟨A, c, hv, -⟩ := own_sl h.nodes
  rw [hv] at x0
  have x1 : w.cell? ⟨g, 1, none⟩ = some r.mv := h.blk.cell 1
  have hkl := (List.getElem?_eq_some_iff.1 hkm).1
  obtain ⟨bm, cm0, hmv0, -, hbml, hsm⟩ := own_at h.msgs (by omega)
  rw [hmv0] at x1
  have m2 : w.cell? ⟨bm, k * 10 + 2, none⟩ = some (.int .i64 m.dst) := hsm.own_msg hkm rfl
  have hgl := h.blk.lt
  have hne : g ≠ w.heap.size := by omega
  have hcapm := hsm.cap
  have hmaxm := hsm.max
  have HH := Lib.hid h
  clear h hv hsm hmv0 hkm
  generalize xs.length = n at x0 hd
  generalize G.msgs.length = nm at x1 hkl hcapm
  generalize m.dst = d at m2 hd
  go_enter Try.func45, Try.ntmps45
  go_wp2
  go_quiet (fail)
  have A1 : Aft w ((w.alloc (.cells #[.int .i64 3, .int .i64 (k : Int)] 78)).drewN nq) := below_drewN ((Below.refl _ w).alloc (Nat.le_refl _) _) nq
  have B1 : Blk ((w.alloc (.cells #[.int .i64 3, .int .i64 (k : Int)] 78)).drewN nq) w.heap.size 78 #[.int .i64 3, .int .i64 (k : Int)] := (Blk.new w _ _).drewN nq
  generalize (w.alloc (.cells #[.int .i64 3, .int .i64 (k : Int)] 78)).drewN nq = wd at A1 B1 ⊢
  have n2 := cell_below A1 m2
  have z0 := cell_below A1 x0
  have z1 := cell_below A1 x1
  have o0 : wd.cell? ⟨w.heap.size, 0, none⟩ = some (.int .i64 3) := B1.cell 0
  have o1 : wd.cell? ⟨w.heap.size, 1, none⟩ = some (.int .i64 (k : Int)) := B1.cell 1
  have HA1 := Lib.hid A1
  clear A1 B1 m2 x0 x1
  by_cases h0 : d < 0
  · go_wp2
    go_quiet (fail)
    go_wp2
    refine bodyPost_ret (results_none rfl _ _ _) rfl ?_
    exact ⟨rfl, HH.out.after (below_drewN HA1.out nq), below_drewN HA1.out nq⟩
  · have h1 : (n : Int) ≤ d := by omega
    go_wp2
    go_quiet (fail)
    go_wp2
    refine bodyPost_ret (results_none rfl _ _ _) rfl ?_
    exact ⟨rfl, HH.out.after (below_drewN HA1.out nq), below_drewN HA1.out nq⟩
/-- ONE THING IS DONE -/
theorem play_chg (c : Nat) (what k : Int) (w : World) (h : GrpP H w g r xs G) (hf : G.Fine c) (hc : c ≤ 250) :
    Calls Try.prog 45 #[.pointer (some ⟨g, 0, none⟩), .agg #[.int .i64 what, .int .i64 k]] w fun e w' => e = .returned (.tuple #[]) ∧ (∃ r' xs', GrpP H w' g r' xs' (G.play what k)) ∧ Chg (GrpOwn r g xs) w w' := by
  have hH : H ≤ w.heap.size := Nat.le_trans h.hg (Nat.le_of_lt h.blk.lt)
  have hl := h.len
  have stay : ∀ {e : Ending} {w' : World}, G.play what k = G → (e = .returned (.tuple #[]) ∧ GrpP H w' g r xs G ∧ Below w.heap.size w w') → e = .returned (.tuple #[]) ∧ (∃ r' xs', GrpP H w' g r' xs' (G.play what k)) ∧ Chg (GrpOwn r g xs) w w' := fun he ⟨h1, h2, h3⟩ => ⟨h1, by rw [he]; exact ⟨r, xs, h2⟩, Chg.below h3⟩
  have turn : ∀ {e : Ending} {w' : World} {G' : GP}, G.play what k = G' → (e = .returned (.tuple #[]) ∧ ∃ r' xs', GrpP H w' g r' xs' G' ∧ Chg (GrpOwn r g xs) w w') → e = .returned (.tuple #[]) ∧ (∃ r' xs', GrpP H w' g r' xs' (G.play what k)) ∧ Chg (GrpOwn r g xs) w w' := fun he ⟨h1, r', xs', h2, h3⟩ => ⟨h1, by rw [he]; exact ⟨r', xs', h2⟩, h3⟩
  have f1 := hf.bd.few
  have f2 := hf.msgs
  have f3 := hf.terms
  have f4 := hf.leads
  have six : ∀ {x : ND}, x ∈ G.nodes → ∀ j, (G.does what x j).2.length ≤ 1000 := fun hx j => Nat.le_trans (len_does hf.bd hx what j) (by omega)
  by_cases h3 : what = 3
  · by_cases hk : 0 ≤ k ∧ k < (G.msgs.length : Int)
    · obtain ⟨j, rfl⟩ : ∃ j : Nat, k = (j : Int) := ⟨k.toNat, by omega⟩
      have hj : j < G.msgs.length := by omega
      obtain ⟨m, hm⟩ : ∃ m, G.msgs[j]? = some m := ⟨_, List.getElem?_eq_getElem hj⟩
      have hp : G.play what (j : Int) = G.at_ what m.dst j := by
        unfold GP.play
        rw [if_pos h3, if_pos hk, show ((j : Int)).toNat = j by omega, hm]
      by_cases hd : 0 ≤ m.dst ∧ m.dst < (G.nodes.length : Int)
      · obtain ⟨i, hi⟩ : ∃ i : Nat, m.dst = (i : Int) := ⟨m.dst.toNat, by omega⟩
        have hil : i < G.nodes.length := by omega
        obtain ⟨x, hx⟩ : ∃ x, G.nodes[i]? = some x := ⟨_, List.getElem?_eq_getElem hil⟩
        have hdo : G.does what x j = x.hear m := by unfold GP.does; rw [if_neg (by omega), if_neg (by omega), if_pos h3, hm]
        have hp2 : G.play what (j : Int) = G.done i (x.hear m) := by
          rw [hp]
          unfold GP.at_
          rw [if_pos hd, hi, show ((i : Int)).toNat = i by omega, hx]
          simp only [hdo]
        obtain ⟨k1, k2, k3, k4, k5, k6, k7⟩ := fine_ok hf hc hx
        have hms := six (List.mem_of_getElem? hx) j
        rw [hdo] at hms
        have hmt := hf.bd.msg m (List.mem_of_getElem? hm)
        have := (play_hear j i m x w h hm hi hx ⟨k1, k2, k3, k4, k5, k6⟩ k7 (by omega) f1 (by omega) (by omega) (by omega) hms).mono (fun _ _ hq => turn hp2 hq)
        rw [h3]
        rw [h3] at this
        exact this
      · have hp2 : G.play what (j : Int) = G := by
          rw [hp]
          unfold GP.at_
          rw [if_neg hd]
        have := (play_lost j m w h hm (by rw [hl]; exact hd)).mono (fun _ _ hq => stay hp2 hq)
        rw [h3]
        rw [h3] at this
        exact this
    · have hp2 : G.play what k = G := by unfold GP.play; rw [if_pos h3, if_neg hk]
      have := (play_far k w h hk).mono (fun _ _ hq => stay hp2 hq)
      rw [h3]
      rw [h3] at this
      exact this
  · have hp : G.play what k = G.at_ what k k.toNat := by unfold GP.play; rw [if_neg h3]
    by_cases hd : 0 ≤ k ∧ k < (G.nodes.length : Int)
    · obtain ⟨i, rfl⟩ : ∃ i : Nat, k = (i : Int) := ⟨k.toNat, by omega⟩
      have hil : i < G.nodes.length := by omega
      obtain ⟨x, hx⟩ : ∃ x, G.nodes[i]? = some x := ⟨_, List.getElem?_eq_getElem hil⟩
      have hp2 : G.play what (i : Int) = G.done i (G.does what x i) := by
        rw [hp]
        unfold GP.at_
        rw [if_pos hd, show ((i : Int)).toNat = i by omega, hx]
      obtain ⟨k1, k2, k3, k4, k5, k6, k7⟩ := fine_ok hf hc hx
      have hok : x.Ok := ⟨k1, k2, k3, k4, k5, k6⟩
      have hms := six (List.mem_of_getElem? hx) i
      by_cases h1 : what = 1
      · subst h1
        exact (play_pre i x w h hx hok f1 (by omega) (by omega) (by omega) hms).mono fun _ _ hq => turn hp2 hq
      · by_cases h2 : what = 2
        · subst h2
          exact (play_real i x w h hx hok f1 (by omega) (by omega) (by omega) hms).mono fun _ _ hq => turn hp2 hq
        · by_cases h4 : what = 4
          · subst h4
            exact (play_heard i x w h hx f1 (by omega) (by omega) (by omega)).mono fun _ _ hq => turn hp2 hq
          · by_cases h5 : what = 5
            · subst h5
              exact (play_deaf i x w h hx f1 (by omega) (by omega) (by omega)).mono fun _ _ hq => turn hp2 hq
            · have hdo : G.does what x i = (x, []) := by unfold GP.does; rw [if_neg h1, if_neg h2, if_neg h3, if_neg h4, if_neg h5]
              rw [hdo] at hp2
              exact (play_other what i x w h h1 h2 h3 h4 h5 hx f1 (by omega) (by omega) (by omega)).mono fun _ _ hq => turn hp2 hq
    · have hp2 : G.play what k = G := by rw [hp]; unfold GP.at_; rw [if_neg hd]
      exact (play_out what k w h h3 (by rw [hl]; exact hd)).mono fun _ _ hq => stay hp2 hq
theorem play_any (c : Nat) (what k : Int) (w : World) (h : GrpP H w g r xs G) (hf : G.Fine c) (hc : c ≤ 250) :
    Calls Try.prog 45 #[.pointer (some ⟨g, 0, none⟩), .agg #[.int .i64 what, .int .i64 k]] w fun e w' => e = .returned (.tuple #[]) ∧ (∃ r' xs', GrpP H w' g r' xs' (G.play what k)) ∧ Below H w w' :=
  (play_chg c what k w h hf hc).mono fun _ _ ⟨h1, h2, h3⟩ => ⟨h1, h2, h3.toBelow (fun k hk => (h.own_low k hk).1) (Nat.le_trans h.hg (Nat.le_of_lt h.blk.lt))⟩
end
end Go.Proofs.Ytbgdepaffgeinaa
