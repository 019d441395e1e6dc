import Derived.Test.YtbgdepaffgeinaaRSame
import Derived.Test.YtbgdepaffgeinaaWAppend
import Derived.Test.YtbgdepaffgeinaaWHint
namespace Go.Proofs.Ytbgdepaffgeinaa
open Go.RowKit

/-- an entry of a term, and nothing else -/
def te (t : Nat) : Ent := ⟨t, 0, none, 0, []⟩
def es3 : List Ent := [te 1, te 1, te 2]
set_option maxRecDepth 100000 in
theorem three_any (w : World) :
    Calls Try.prog 49 #[] w fun e w' => ∃ A lo hi, e = .returned (.agg #[.int .u64 0, .int .u64 0, .slice A 3 3]) ∧ Sl w' lo hi 3 A 3 3 (ecells es3) ∧ Below w.heap.size w w' := by
  go_enter Try.func49, Try.ntmps49
  go_wp2
  have hs := sl_at (w.alloc (Obj.cells #[.int .u64 0, .int .u64 0, .slice (some ⟨w.heap.size + 1, 0, none⟩) 3 3] 25)) (w.heap.size + 1) 3 3 3 #[.int .u64 1, .int .i64 0, .slice none 0 0, .int .u64 1, .int .i64 0, .slice none 0 0, .int .u64 2, .int .i64 0, .slice none 0 0] 35 (by simp) rfl (Nat.le_refl _) (by decide)
  refine bodyPost_ret (v := .agg #[.int .u64 0, .int .u64 0, .slice (some ⟨w.heap.size + 1, 0, none⟩) 3 3]) (by simp [results, Try.results49, go_sem]) rfl ⟨_, _, _, rfl, hs, ((Below.refl _ w).alloc (Nat.le_refl _) _).alloc (by simp) _⟩
/-- Append, what it makes known -/
theorem append_eq {base bt n c prev pt m d lo hi lo' hi' i code : Nat} {A B : Option Addr} {es xs E : List Ent} {w : World} (hs : Sl w lo hi 3 A n c (ecells es)) (hx : Sl w lo' hi' 3 B m d (ecells xs)) (hb : base < 1152921504606846976) (hn : n ≤ 1000) (hm : m ≤ 1000) (hp : prev < 18446744073709551616) (h : appendF base bt es prev pt xs = (E, i, code)) :
    Calls Try.prog 28 #[.agg #[.int .u64 (base : Int), .int .u64 (bt : Int), .slice A n c], .int .u64 (prev : Int), .int .u64 (pt : Int), .slice B m d] w fun e w' =>
      ∃ A' c', e = .returned (.tuple #[.agg #[.int .u64 (base : Int), .int .u64 (bt : Int), .slice A' E.length c'], .int .u64 (i : Nat), .int .i64 (code : Nat)]) ∧ (∃ lo hi, Sl w' lo hi 3 A' E.length c' (ecells E)) ∧ Below w.heap.size w w' := by
  refine (append_any base bt n c prev pt m d lo hi lo' hi' A B es xs w hs hx hb hn hm hp).mono ?_
  rintro e w' ⟨A', n', c', E', i', code', rfl, h', ⟨lo2, hi2, hs2⟩, hb2⟩
  rw [h] at h'
  obtain ⟨rfl, rfl, rfl⟩ : E = E' ∧ i = i' ∧ code = code' := by simpa using h'
  have hl : E.length = n' := by have := hs2.len; rw [ecells_len] at this; omega
  subst hl
  exact ⟨A', c', rfl, ⟨lo2, hi2, hs2⟩, hb2⟩
set_option maxRecDepth 100000 in
set_option maxHeartbeats 2000000 in
theorem awake9_any (w : World) : Calls Try.prog 12 #[] w fun e w' => e = .returned (.bool true) ∧ Below w.heap.size w w' := by
  go_enter Try.func12, Try.ntmps12
  go_wp2_with fail
  refine (three_any _).mono ?_
  rintro e w1 ⟨A, lo, hi, rfl, s1, D1⟩
  go_wp2_with fail
  refine (append_eq (base := 0) (bt := 0) (prev := 2) (pt := 1) (xs := [te 3]) (E := [te 1, te 1, te 3]) (i := 3) (code := 0) ((s1.alloc (by decide) _).alloc (by decide) _) (sl_at _ (w1.heap.size + 1) 3 1 1 #[.int .u64 3, .int .i64 0, .slice none 0 0] 35 (by simp) rfl (Nat.le_refl _) (by decide)) (by omega) (by omega) (by omega) (by omega) rfl).mono ?_
  rintro e w2 ⟨A2, c2, rfl, ⟨lo2, hi2, sa2⟩, hb2⟩
  have D2 := (below_alloc' (below_alloc' D1 _ (Nat.le_refl _)) _ (Nat.le_refl _)).trans (hb2.mono (below_alloc' (below_alloc' D1 _ (Nat.le_refl _)) _ (Nat.le_refl _)).size)
  have s2 := (((s1.alloc (by decide) _).alloc (by decide) _).after (by decide) hb2)
  have L2 := (((Blk.new _ _ _).alloc _)).after hb2
  clear D1 s1 hb2
  obtain ⟨Lx0, Lx1, Lx2⟩ := (L2.alloc (Obj.cells #[.int .u64 0, .int .u64 0, .slice A2 3 c2] 25)).c3
  go_wp2_with fail
  refine (append_eq (base := 0) (bt := 0) (prev := 1) (pt := 1) (xs := [te 1]) (E := [te 1, te 1, te 2]) (i := 0) (code := 0) ((s2.alloc (by decide) _).alloc (by decide) _) (sl_at _ (w2.heap.size + 1) 3 1 1 #[.int .u64 1, .int .i64 0, .slice none 0 0] 35 (by simp) rfl (Nat.le_refl _) (by decide)) (by omega) (by omega) (by omega) (by omega) rfl).mono ?_
  rintro e w3 ⟨A3, c3, rfl, ⟨lo3, hi3, _⟩, hb3⟩
  have D3 := (below_alloc' (below_alloc' D2 _ (Nat.le_refl _)) _ (Nat.le_refl _)).trans (hb3.mono (below_alloc' (below_alloc' D2 _ (Nat.le_refl _)) _ (Nat.le_refl _)).size)
  have s3 := (((s2.alloc (by decide) _).alloc (by decide) _).after (by decide) hb3)
  have L3 := (((L2.alloc _).alloc _).after hb3)
  have sa3 := (((sa2.alloc (by decide) _).alloc (by decide) _).after (by decide) hb3)
  have Ba3 := (((Blk.new _ _ _).alloc _)).after hb3
  clear D2 s2 L2 sa2 hb3
  clear Lx0 Lx1 Lx2
  obtain ⟨Lx0, Lx1, Lx2⟩ := (L3.alloc (Obj.cells #[.int .u64 0, .int .u64 0, .slice A3 3 c3] 25)).c3
  go_wp2_with fail
  refine (append_eq (base := 0) (bt := 0) (prev := 3) (pt := 1) (xs := []) (E := [te 1, te 1, te 2]) (i := 0) (code := 60) (s3.alloc (by decide) _) (Sl.nil_ _ 0 0 3) (by omega) (by omega) (by omega) (by omega) rfl).mono ?_
  rintro e w4 ⟨A4, c4, rfl, ⟨lo4, hi4, _⟩, hb4⟩
  have D4 := (below_alloc' D3 _ (Nat.le_refl _)).trans (hb4.mono (below_alloc' D3 _ (Nat.le_refl _)).size)
  have s4 := ((s3.alloc (by decide) _).after (by decide) hb4)
  have L4 := ((L3.alloc _).after hb4)
  have sa4 := ((sa3.alloc (by decide) _).after (by decide) hb4)
  have Ba4 := ((Ba3.alloc _).after hb4)
  have Bd4 := ((Blk.new _ _ _)).after hb4
  clear D3 s3 L3 sa3 Ba3 hb4
  clear Lx0 Lx1 Lx2
  obtain ⟨Lx0, Lx1, Lx2⟩ := (L4.alloc (Obj.cells #[.int .u64 0, .int .u64 0, .slice A4 3 c4] 25)).c3
  go_wp2_with fail
  refine (append_eq (base := 0) (bt := 0) (prev := 4) (pt := 2) (xs := []) (E := [te 1, te 1, te 2]) (i := 0) (code := 60) (s4.alloc (by decide) _) (Sl.nil_ _ 0 0 3) (by omega) (by omega) (by omega) (by omega) rfl).mono ?_
  rintro e w5 ⟨A5, c5, rfl, ⟨lo5, hi5, _⟩, hb5⟩
  have D5 := (below_alloc' D4 _ (Nat.le_refl _)).trans (hb5.mono (below_alloc' D4 _ (Nat.le_refl _)).size)
  have s5 := ((s4.alloc (by decide) _).after (by decide) hb5)
  have L5 := ((L4.alloc _).after hb5)
  have sa5 := ((sa4.alloc (by decide) _).after (by decide) hb5)
  have Ba5 := ((Ba4.alloc _).after hb5)
  have Bd5 := ((Bd4.alloc _).after hb5)
  clear D4 s4 L4 sa4 Ba4 Bd4 hb5
  clear Lx0 Lx1 Lx2
  obtain ⟨Lx0, Lx1, Lx2⟩ := (L5.alloc (Obj.cells #[.int .u64 0, .int .u64 0, .slice A5 3 c5] 25)).c3
  go_wp2_with fail
  refine (cut_any 0 0 3 3 2 lo hi A es3 _ (s5.alloc (by decide) _) (by omega) (by omega) (by omega) (by omega)).mono ?_
  rintro e w6 ⟨A6, c6, rfl, sc6, hb6⟩
  have D6 := (below_alloc' D5 _ (Nat.le_refl _)).trans (hb6.mono (below_alloc' D5 _ (Nat.le_refl _)).size)
  have s6 := ((s5.alloc (by decide) _).after (by decide) hb6)
  have L6 := ((L5.alloc _).after hb6)
  have sa6 := ((sa5.alloc (by decide) _).after (by decide) hb6)
  have Ba6 := ((Ba5.alloc _).after hb6)
  have Bd6 := ((Bd5.alloc _).after hb6)
  clear D5 s5 L5 sa5 Ba5 Bd5 hb6
  clear Lx0 Lx1 Lx2
  obtain ⟨Lx0, Lx1, Lx2⟩ := (L6.alloc (Obj.cells #[.int .u64 2, .int .u64 1, .slice A6 1 c6] 25)).c3
  go_wp2_with fail
  refine (term_any 2 1 1 c6 1 _ _ A6 [te 2] _ (sc6.alloc (by decide) _) (by omega) (by omega) (by omega)).mono ?_
  rintro e w7 ⟨rfl, hb7⟩
  have D7 := (below_alloc' D6 _ (Nat.le_refl _)).trans (hb7.mono (below_alloc' D6 _ (Nat.le_refl _)).size)
  have s7 := ((s6.alloc (by decide) _).after (by decide) hb7)
  have L7 := ((L6.alloc _).after hb7)
  have sa7 := ((sa6.alloc (by decide) _).after (by decide) hb7)
  have Ba7 := ((Ba6.alloc _).after hb7)
  have Bd7 := ((Bd6.alloc _).after hb7)
  have sc7 := ((sc6.alloc (by decide) _).after (by decide) hb7)
  clear D6 s6 L6 sa6 Ba6 Bd6 sc6 hb7
  clear Lx0 Lx1 Lx2
  obtain ⟨Lx0, Lx1, Lx2⟩ := L7.c3
  go_wp2_with fail
  refine (newer_any 0 0 3 3 2 2 lo hi A es3 _ s7 (by omega) (by omega)).mono ?_
  rintro e w8 ⟨rfl, hb8⟩
  have D8 := D7.trans (hb8.mono D7.size)
  have s8 := (s7.after (by decide) hb8)
  have L8 := (L7.after hb8)
  have sa8 := (sa7.after (by decide) hb8)
  have Ba8 := (Ba7.after hb8)
  have Bd8 := (Bd7.after hb8)
  have sc8 := (sc7.after (by decide) hb8)
  clear D7 s7 L7 sa7 Ba7 Bd7 sc7 hb8
  clear Lx0 Lx1 Lx2
  obtain ⟨Lx0, Lx1, Lx2⟩ := L8.c3
  go_wp2_with fail
  refine (newer_any 0 0 3 3 2 3 lo hi A es3 _ s8 (by omega) (by omega)).mono ?_
  rintro e w9 ⟨rfl, hb9⟩
  have D9 := D8.trans (hb9.mono D8.size)
  have s9 := (s8.after (by decide) hb9)
  have L9 := (L8.after hb9)
  have sa9 := (sa8.after (by decide) hb9)
  have Ba9 := (Ba8.after hb9)
  have Bd9 := (Bd8.after hb9)
  have sc9 := (sc8.after (by decide) hb9)
  clear D8 s8 L8 sa8 Ba8 Bd8 sc8 hb9
  clear Lx0 Lx1 Lx2
  obtain ⟨Lx0, Lx1, Lx2⟩ := L9.c3
  go_wp2_with fail
  refine (newer_any 0 0 3 3 3 0 lo hi A es3 _ s9 (by omega) (by omega)).mono ?_
  rintro e w10 ⟨rfl, hb10⟩
  have D10 := D9.trans (hb10.mono D9.size)
  have s10 := (s9.after (by decide) hb10)
  have L10 := (L9.after hb10)
  have sa10 := (sa9.after (by decide) hb10)
  have Ba10 := (Ba9.after hb10)
  have Bd10 := (Bd9.after hb10)
  have sc10 := (sc9.after (by decide) hb10)
  clear D9 s9 L9 sa9 Ba9 Bd9 sc9 hb10
  clear Lx0 Lx1 Lx2
  obtain ⟨Lx0, Lx1, Lx2⟩ := L10.c3
  go_wp2_with fail
  refine (hint_any 0 0 3 3 3 lo hi A es3 _ s10 (by omega) (by omega) (by omega)).mono ?_
  rintro e w11 ⟨rfl, hb11⟩
  have D11 := D10.trans (hb11.mono D10.size)
  have s11 := (s10.after (by decide) hb11)
  have L11 := (L10.after hb11)
  have sa11 := (sa10.after (by decide) hb11)
  have Ba11 := (Ba10.after hb11)
  have Bd11 := (Bd10.after hb11)
  have sc11 := (sc10.after (by decide) hb11)
  clear D10 s10 L10 sa10 Ba10 Bd10 sc10 hb11
  clear Lx0 Lx1 Lx2
  obtain ⟨Lx0, Lx1, Lx2⟩ := L11.c3
  go_wp2_with fail
  refine (hint_any 0 0 3 3 9 lo hi A es3 _ s11 (by omega) (by omega) (by omega)).mono ?_
  rintro e w12 ⟨rfl, hb12⟩
  have D12 := D11.trans (hb12.mono D11.size)
  have s12 := (s11.after (by decide) hb12)
  have L12 := (L11.after hb12)
  have sa12 := (sa11.after (by decide) hb12)
  have Ba12 := (Ba11.after hb12)
  have Bd12 := (Bd11.after hb12)
  have sc12 := (sc11.after (by decide) hb12)
  clear D11 s11 L11 sa11 Ba11 Bd11 sc11 hb12
  clear Lx0 Lx1 Lx2
  obtain ⟨Lx0, Lx1, Lx2⟩ := L12.c3
  go_wp2_with fail
  refine (hint_any 0 0 3 3 2 lo hi A es3 _ s12 (by omega) (by omega) (by omega)).mono ?_
  rintro e w13 ⟨rfl, hb13⟩
  have D13 := D12.trans (hb13.mono D12.size)
  have s13 := (s12.after (by decide) hb13)
  have L13 := (L12.after hb13)
  have sa13 := (sa12.after (by decide) hb13)
  have Ba13 := (Ba12.after hb13)
  have Bd13 := (Bd12.after hb13)
  have sc13 := (sc12.after (by decide) hb13)
  clear D12 s12 L12 sa12 Ba12 Bd12 sc12 hb13
  clear Lx0 Lx1 Lx2
  obtain ⟨Lx0, Lx1, Lx2⟩ := L13.c3
  obtain ⟨Bax0, Bax1, Bax2⟩ := Ba13.c3
  go_wp2_with fail
  refine (lastTerm_any 0 0 3 c2 lo2 hi2 A2 [te 1, te 1, te 3] _ sa13 (by omega) (by omega)).mono ?_
  rintro e w14 ⟨rfl, hb14⟩
  have D14 := D13.trans (hb14.mono D13.size)
  have s14 := (s13.after (by decide) hb14)
  have L14 := (L13.after hb14)
  have sa14 := (sa13.after (by decide) hb14)
  have Ba14 := (Ba13.after hb14)
  have Bd14 := (Bd13.after hb14)
  have sc14 := (sc13.after (by decide) hb14)
  clear D13 s13 L13 sa13 Ba13 Bd13 sc13 hb14
  clear Lx0 Lx1 Lx2
  obtain ⟨Lx0, Lx1, Lx2⟩ := L14.c3
  clear Bax0 Bax1 Bax2
  obtain ⟨Bax0, Bax1, Bax2⟩ := Ba14.c3
  obtain ⟨Bdx0, Bdx1, Bdx2⟩ := Bd14.c3
  go_wp2
  go_ret
  exact ⟨rfl, D14⟩
end Go.Proofs.Ytbgdepaffgeinaa
