/- New; Drift; Numbers. -/
import Derived.Test.YtcocakbopbehjaaClkDue
namespace Go.Proofs.Ytcocakbopbehjaa
open Go.RowKit
theorem map_add0' (ad : Addr) : ad.add 0 = ad := by unfold Addr.add; simp
def pn0 : PN := ⟨0, [], false⟩
theorem ptr_info : (Try.prog.info? 55).map (fun i => (i.zero, i.size, i.bytes)) = some (some (.pointer none), 1, 8) := by kernel_rfl
set_option maxRecDepth 100000 in
theorem cnew_bad (n : Int) (w : World) (hn : ¬ (1 ≤ n ∧ n ≤ 16)) : Calls Try.prog 9 #[.int .i64 n] w fun e w' => e = .returned (.tuple #[.pointer none, .int .i64 1]) ∧ w = w' := by
  by_cases h1 : n < 1
  · go_enter Try.func9, Try.ntmps9
    go_wp2
    go_ret2
    exact ⟨rfl, rfl⟩
  · have h2 : 16 < n := by omega
    go_enter Try.func9, Try.ntmps9
    go_wp2
    go_ret2
    exact ⟨rfl, rfl⟩
set_option maxRecDepth 100000 in
set_option maxHeartbeats 1600000 in
theorem cnew_ok (H : Nat) (n : Nat) (w : World) (h1 : 1 ≤ n) (h16 : n ≤ 16) (hH : H ≤ w.heap.size) :
    Calls Try.prog 9 #[.int .i64 (n : Int)] w fun e w' => ∃ g O, e = .returned (.tuple #[.pointer (some ⟨g, 0, none⟩), .int .i64 0]) ∧ ClkAt H w' O g (List.replicate n pn0) ∧ (∀ k, O k → w.heap.size ≤ k) ∧ Below w.heap.size w w' := by
  obtain ⟨i0, hi0, hz0, hz1, hz2⟩ := info_parts ptr_info
  have k1 : ¬ (n : Int) < 1 := by omega
  have k2 : ¬ (16 : Int) < (n : Int) := by omega
  go_enter Try.func9, Try.ntmps9
  go_wp2
  go_loopw [14] (fun i wr => ∃ (k : Nat) (v : Value) (bs : List Nat), k ≤ n ∧ i = .int .i64 k ∧ Blk wr w.heap.size 54 #[v] ∧ wr.ownsRow (w.heap.size + 1) 55 1 v k (bs.map fun b => .pointer (some ⟨b, 0, none⟩)) ∧ (∀ b ∈ bs, Blk wr b 58 #[.int .u64 0, .slice none 0 0, .bool false] ∧ w.heap.size ≤ b) ∧ bs.Nodup ∧ Below w.heap.size w wr) (fun i _ => n - (intOf i).toNat)
  case atStart => exact ⟨0, .slice none 0 0, [], Nat.zero_le _, rfl, Blk.new _ _ _, World.ownsRow_nil _ _ _ _, by simp, by simp, (Below.refl _ w).alloc (Nat.le_refl _) _⟩
  case round =>
    obtain ⟨k, v, bs, hk, rfl, hg, hrow, hbs, hnd, hbr⟩ := hrel
    obtain ⟨A, c, rfl, -⟩ := own_sl hrow
    have x0 := hg.c1
    have hgl := hg.lt
    have hne1 : w.heap.size ≠ wr.heap.size := by omega
    have hne2 : w.heap.size ≠ wr.heap.size + 1 := by omega
    have HG := Lib.hid hg
    have HROW := Lib.hid hrow
    have HBS := Lib.hid hbs
    have HND := Lib.hid hnd
    have HBR := Lib.hid hbr
    clear hg hrow hbs hnd hbr
    by_cases hlt : k < n
    · have hK : ∀ (v4 : Value) (w4 : World), ((wr.alloc (.cells #[.int .u64 0, .slice none 0 0, .bool false] 58)).alloc (.cells #[.pointer (some ⟨wr.heap.size, 0, none⟩)] 55)).grownBy w4 (Value.slice A k c).ownBlock → Blk w4 w.heap.size 54 #[.slice A k c] := fun v4 w4 g4 => ((HG.out.alloc _).alloc _).grown g4 fun e => by have := (HROW.out.lt _ e.symm).1; omega
      have HK := Lib.hid hK
      clear hK
      go_wp2_with (at_builtin; refine wpList_app _ rfl (.tmp 20) (.tmp 23) 52 rfl (w.heap.size + 1) 55 i0 _ 1 8 Try.underlying52 hi0 hz0 hz1 hz2 rfl (by omega) (.slice A k c) k _ rfl (by exact own_alloc' (own_alloc' HROW.out _) _) (wr.heap.size + 1) (wr.heap.size + 1 + 1) (some ⟨wr.heap.size + 1, 0, none⟩) 1 1 [.pointer (some ⟨wr.heap.size, 0, none⟩)] rfl (by have := sl_one (wr.alloc (.cells #[.int .u64 0, .slice none 0 0, .bool false] 58)) (.pointer (some ⟨wr.heap.size, 0, none⟩)) 55; rw [alloc_size] at this; exact this) (by intro u hu; rw [List.mem_singleton.1 hu]; rfl) (by simp only [maxLen]; omega) (by omega) (by simp only [alloc_size]; omega) ?_; intro v4 w4 o4 g4 a4; have hb4 := HK.out v4 w4 g4; have y0 := hb4.c1; have f0 := hb4.frozen 0; obtain ⟨A4, c4, hv4, -⟩ := own_sl o4; subst hv4)
      go_roundw
      case rel =>
        have hb4 := HK.out (.slice A4 (k + 1) c4) w4 g4
        have hro : ∀ b, (Value.slice A k c).ownBlock = some b → w.heap.size + 1 ≤ b := fun b hb => (HROW.out.lt b hb).1
        have hro4 : (Value.slice A4 (k + 1) c4).ownBlock ≠ some w.heap.size := fun e => by have := (o4.lt _ e).1; omega
        have hset := only_setCell (World.grownBy.refl w4 (some w.heap.size)) 0 (.slice A4 (k + 1) c4)
        have hnew : Blk ((wr.alloc (.cells #[.int .u64 0, .slice none 0 0, .bool false] 58)).alloc (.cells #[.pointer (some ⟨wr.heap.size, 0, none⟩)] 55)) wr.heap.size 58 #[.int .u64 0, .slice none 0 0, .bool false] := (Blk.new wr _ _).alloc _
        have hkeep : ∀ b, Blk ((wr.alloc (.cells #[.int .u64 0, .slice none 0 0, .bool false] 58)).alloc (.cells #[.pointer (some ⟨wr.heap.size, 0, none⟩)] 55)) b 58 #[.int .u64 0, .slice none 0 0, .bool false] → Blk (w4.setCell ⟨w.heap.size, 0, none⟩ (.slice A4 (k + 1) c4)) b 58 #[.int .u64 0, .slice none 0 0, .bool false] := fun b hb =>
          (hb.grown g4 fun e => row_ne (own_alloc' (own_alloc' HROW.out _) _) hb (by decide) e.symm).far (fun e => by
            have hx : b = w.heap.size := e
            subst hx
            exact hb4.ne (hb.grown g4 fun e => row_ne (own_alloc' (own_alloc' HROW.out _) _) hb (by decide) e.symm) (by decide) rfl) _
        refine ⟨k + 1, .slice A4 (k + 1) c4, bs ++ [wr.heap.size], by omega, by first | rfl | go_num, ?_, ?_, ?_, ?_, ?_⟩
        · have := hb4.set_ 0 (.slice A4 (k + 1) c4)
          simpa using this
        · rw [List.map_append]
          exact own_far o4 hro4 _ _
        · intro b hb
          rcases List.mem_append.1 hb with hb | hb
          · obtain ⟨q1, q2⟩ := HBS.out b hb
            exact ⟨hkeep b ((q1.alloc _).alloc _), q2⟩
          · rw [List.mem_singleton.1 hb]
            exact ⟨hkeep _ hnew, by omega⟩
        · refine List.nodup_append.2 ⟨HND.out, by simp, fun x hx y hy => ?_⟩
          rw [List.mem_singleton.1 hy]
          have := (HBS.out x hx).1.lt
          omega
        · exact (((HBR.out.alloc HBR.out.size _).alloc (by simp only [alloc_size]; omega) _).grown g4 (by simp only [alloc_size]; omega) fun b hb => by have := hro b hb; omega).grown hset (by have := g4.size; simp only [alloc_size] at this; omega) fun b hb => by injection hb with hb; omega
      case measure => simp [intOf]; omega
    · obtain rfl : k = n := by omega
      go_wp2
      go_ret2
      have hbl : bs.length = k := by have := HROW.out.1; simpa using this
      refine ⟨w.heap.size, fun b => w.heap.size ≤ b ∧ b < wr.heap.size, rfl, ⟨fun b hb => by omega, fun b hb => hb.2, ⟨Nat.le_refl _, hgl⟩, .slice A k c, bs.map fun b => ⟨b, .slice none 0 0, pn0⟩, HG.out, ?_, fun b hb => ?_, ?_, ?_, ?_⟩, fun b hb => hb.1, HBR.out⟩
      · rw [List.length_replicate, List.map_map]
        exact own_wide HROW.out (Nat.zero_le _)
      · have := HROW.out.lt b hb
        exact ⟨by omega, this.2⟩
      · rw [List.map_map, ← hbl]
        show bs.map (fun _ => pn0) = _
        first | exact List.map_const' | exact List.map_const' _ _ | simp
      · intro x hx
        obtain ⟨b, hb, rfl⟩ := List.mem_map.1 hx
        obtain ⟨q1, q2⟩ := HBS.out b hb
        exact ⟨⟨q1, World.ownsRow_nil _ _ _ _, ⟨by show (0 : Nat) < _; decide, Nat.zero_le _, fun t ht => by cases ht⟩⟩, ⟨q2, q1.lt⟩, fun b' hb' => by cases hb'⟩
      · rw [List.pairwise_map]
        exact HND.out.imp fun h => ⟨h, fun b hb => by cases hb⟩
def lowN (a : Nat) (l : List Nat) : Nat := l.foldl min a
def highN (a : Nat) (l : List Nat) : Nat := l.foldl max a
def driftN (l : List Nat) : Nat := match l with | [] => 0 | a :: r => highN a (a :: r) - lowN a (a :: r)
theorem low_le : ∀ (l : List Nat) (a : Nat), lowN a l ≤ a
  | [], _ => Nat.le_refl _
  | b :: l, a => Nat.le_trans (low_le l (min a b)) (Nat.min_le_left _ _)
theorem high_ge : ∀ (l : List Nat) (a : Nat), a ≤ highN a l
  | [], _ => Nat.le_refl _
  | b :: l, a => Nat.le_trans (Nat.le_max_left a b) (high_ge l (max a b))
theorem high_lt {B : Nat} : ∀ (l : List Nat) (a : Nat), a < B → (∀ x ∈ l, x < B) → highN a l < B
  | [], _, h, _ => h
  | b :: l, a, h, hl => high_lt l (max a b) (by have := hl b List.mem_cons_self; omega) fun x hx => hl x (List.mem_cons_of_mem _ hx)
theorem low_snoc {l : List Nat} {k x : Nat} (a : Nat) (h : l[k]? = some x) : lowN a (l.take (k + 1)) = min (lowN a (l.take k)) x := by
  obtain ⟨h1, h2⟩ := List.getElem?_eq_some_iff.1 h
  rw [List.take_succ_eq_append_getElem h1, h2]
  simp [lowN]
theorem high_snoc {l : List Nat} {k x : Nat} (a : Nat) (h : l[k]? = some x) : highN a (l.take (k + 1)) = max (highN a (l.take k)) x := by
  obtain ⟨h1, h2⟩ := List.getElem?_eq_some_iff.1 h
  rw [List.take_succ_eq_append_getElem h1, h2]
  simp [highN]
section
variable {H : Nat} {O : Nat → Prop} {g : Nat} {ns : List PN}
set_option maxRecDepth 100000 in
set_option maxHeartbeats 1600000 in
theorem cdrift_any (w : World) (h : ClkAt H w O g ns) (hn : 0 < ns.length) (hn2 : ns.length ≤ 100) :
    Calls Try.prog 23 #[.pointer (some ⟨g, 0, none⟩)] w fun e w' => e = .returned (.int .u64 (driftN (ns.map PN.now) : Int)) ∧ ∃ q, w' = w.drewN q := by
  obtain ⟨v, xs, hg, hr, hrO, hns, hx, hp⟩ := h.st
  obtain ⟨A, c, rfl, hs⟩ := own_sl hr
  have x0 := hg.c1
  have hnl : xs.length = ns.length := by rw [← hns]; simp
  have hcell : ∀ (k : Nat) (x : NB), xs[k]? = some x → ∃ ad, A = some ad ∧ w.cell? (ad.add k) = some (.pointer (some ⟨x.b, 0, none⟩)) ∧ w.cell? ⟨x.b, 0, none⟩ = some (.int .u64 (x.p.now : Int)) ∧ x.p.now < 18446744073709551616 := fun k x hk => by
    have hkl := (List.getElem?_eq_some_iff.1 hk).1
    obtain ⟨ad, u, e, hu, hc⟩ := hs.nth (k := k) (by omega)
    rw [List.getElem?_map, hk] at hu
    have hu' : x.ptr = u := by simpa using hu
    subst hu'
    obtain ⟨hN, -, -⟩ := hx x (List.mem_of_getElem? hk)
    exact ⟨ad, e, hc, hN.blk.c3.1, hN.ok.now⟩
  obtain ⟨x, hx0⟩ : ∃ x, xs[0]? = some x := ⟨_, List.getElem?_eq_getElem (by omega)⟩
  obtain ⟨ad, rfl, c0, c1, hb0⟩ := hcell 0 x hx0
  have hmax := hs.max
  have hcap := hs.cap
  obtain ⟨n, hnn⟩ : ∃ n, ns.length = n := ⟨_, rfl⟩
  rw [hnn] at hnl hn hn2 x0 hcap
  have hL : ns.map PN.now = xs.map fun x : NB => x.p.now := by rw [← hns, List.map_map]; rfl
  obtain ⟨L, hLL⟩ : ∃ L, (xs.map fun x : NB => x.p.now) = L := ⟨_, rfl⟩
  have hLk : ∀ (k : Nat) (x : NB), xs[k]? = some x → L[k]? = some x.p.now := fun k x hk => by rw [← hLL, List.getElem?_map, hk]; rfl
  have hLn : L.length = n := by rw [← hLL, List.length_map, hnl]
  have hLb : ∀ y ∈ L, y < 18446744073709551616 := fun y hy => by
    rw [← hLL] at hy
    obtain ⟨z, hz, rfl⟩ := List.mem_map.1 hy
    exact (hx z hz).1.ok.now
  rw [hL, hLL]
  have HLK := Lib.hid hLk
  have HCELL := Lib.hid hcell
  have HXL := Lib.hid hnl
  have HLB := Lib.hid hLb
  have HLN := Lib.hid hLn
  have hL0 := hLk 0 x hx0
  obtain ⟨a, ha⟩ : ∃ a, x.p.now = a := ⟨_, rfl⟩
  rw [ha] at c1 hb0 hL0
  have hD : driftN L = highN a L - lowN a L := by
    cases L with
    | nil => simp at hL0
    | cons b r =>
      have hba : b = a := by simpa using hL0
      subst hba
      rfl
  have HD := Lib.hid hD
  rw [map_add0' ad] at c0
  generalize x.b = xb at c0 c1
  clear hL hLL hLk hcell hnl hg hr hrO hns hx hp h hx0 ha hL0 hD hs hLb hLn hnn
  go_enter Try.func23, Try.ntmps23
  go_wp2
  go_quiet (fail)
  go_wp2
  go_loopw [3, 4, 6, 30] (fun l h _ i wr => ∃ k q : Nat, k ≤ n ∧ i = .int .i64 k ∧ l = .int .u64 (lowN a (L.take k) : Nat) ∧ h = .int .u64 (highN a (L.take k) : Nat) ∧ wr = w.drewN q) (fun _ _ _ i _ => n - (intOf i).toNat)
  case atStart => exact ⟨0, nq, Nat.zero_le _, rfl, rfl, rfl, rfl⟩
  case round =>
    obtain ⟨k, q, hk, rfl, rfl, rfl, rfl⟩ := hrel
    by_cases hlt : k < n
    · obtain ⟨y, hy⟩ : ∃ y, xs[k]? = some y := ⟨_, List.getElem?_eq_getElem (by rw [HXL.out]; exact hlt)⟩
      obtain ⟨ad', e, z0, z1, hyb⟩ := HCELL.out k y hy
      injection e with e
      subst e
      have hly := HLK.out k y hy
      have HLS := Lib.hid (low_snoc a hly)
      have HHS := Lib.hid (high_snoc a hly)
      have HLE : lowN a (L.take k) ≤ highN a (L.take k) := Nat.le_trans (low_le _ _) (high_ge _ _)
      obtain ⟨lo, hlo⟩ : ∃ x, lowN a (L.take k) = x := ⟨_, rfl⟩
      obtain ⟨hi, hhi⟩ : ∃ x, highN a (L.take k) = x := ⟨_, rfl⟩
      simp only [hlo, hhi] at HLS HHS HLE ⊢
      obtain ⟨t, ht⟩ : ∃ x, y.p.now = x := ⟨_, rfl⟩
      simp only [ht] at z1 HLS HHS hyb
      generalize y.b = yb at z0 z1
      clear hly hy hlo hhi ht
      go_wp2
      go_quiet (fail)
      go_wp2
      go_roundw
      case rel =>
        refine ⟨k + 1, q + nq, by omega, by first | rfl | go_num, ?_, ?_, rfl⟩
        · rw [HLS.out]; congr 1; omega
        · rw [HHS.out]; congr 1; omega
      case measure => simp [intOf]; omega
    · obtain rfl : k = n := by omega
      have htk : L.take k = L := List.take_of_length_le (by rw [HLN.out]; exact Nat.le_refl _)
      have HLE : lowN a (L.take k) ≤ highN a (L.take k) := Nat.le_trans (low_le _ _) (high_ge _ _)
      have hlt2 : highN a (L.take k) < 18446744073709551616 := by rw [htk]; exact high_lt L a hb0 HLB.out
      have HD2 : driftN L = highN a (L.take k) - lowN a (L.take k) := by rw [htk]; exact HD.out
      have HD3 := Lib.hid HD2
      clear HD2 htk
      obtain ⟨lo, hlo⟩ : ∃ x, lowN a (L.take k) = x := ⟨_, rfl⟩
      obtain ⟨hi, hhi⟩ : ∃ x, highN a (L.take k) = x := ⟨_, rfl⟩
      simp only [hlo, hhi] at HD3 HLE hlt2 ⊢
      have hw : IntKind.u64.wrap ((hi : Int) - (lo : Int)) = ((hi - lo : Nat) : Int) := by rw [IntKind.wrap_u64]; omega
      go_wp2
      go_ret
      exact ⟨by rw [HD3.out]; rfl, q, rfl⟩
end
set_option maxHeartbeats 400000 in
set_option maxRecDepth 100000 in
theorem numbers_any (A B : Option Addr) (n m c d lo hi lo' hi' : Nat) (xs ys : List Int) (w : World) (ha : Sl w lo hi 1 A n c (xs.map (Value.int .i64))) (hb : Sl w lo' hi' 1 B m d (ys.map (Value.int .i64))) :
    Calls Try.prog 16 #[.slice A n c, .slice B m d] w fun e w' => e = .returned (.bool (xs == ys)) ∧ ∃ q, w' = w.drewN q := by
  have hn := ha.len
  have hm := hb.len
  simp only [List.length_map, Nat.mul_one] at hn hm
  have b1 := ha.cap
  have b2 := ha.max
  by_cases h : n = m
  · obtain rfl := h
    have Hn := Lib.hid hn
    have Hm := Lib.hid hm
    clear hn hm
    go_enter Try.func16, Try.ntmps16
    go_wp2
    go_loopw [5] (fun i wr => ∃ k q : Nat, k ≤ n ∧ i = .int .i64 k ∧ xs.take k = ys.take k ∧ wr = w.drewN q) (fun i _ => n - (intOf i).toNat)
    case atStart => exact ⟨0, 0, Nat.zero_le _, rfl, rfl, rfl⟩
    case round =>
      obtain ⟨k, q, hk, rfl, ht, rfl⟩ := hrel
      have Ht := Lib.hid ht
      clear ht
      by_cases hlt : k < n
      · obtain ⟨ad, u, rfl, hu, hcx⟩ := ha.nth hlt
        obtain ⟨bd, v, rfl, hv, hcy⟩ := hb.nth hlt
        rw [List.getElem?_map] at hu hv
        obtain ⟨x, hx, rfl⟩ := Option.map_eq_some_iff.1 hu
        obtain ⟨y, hy, rfl⟩ := Option.map_eq_some_iff.1 hv
        have Hx := Lib.hid hx
        have Hy := Lib.hid hy
        clear hx hy ha hb hu hv
        go_wp2
        go_quiet (fail)
        go_wp2
        · have hne : (x != y) = true := by assumption
          go_ret
          refine ⟨congrArg (fun b => Ending.returned (.bool b)) (beq_eq_false_iff_ne.2 fun e => ?_).symm, q + nq, by simp⟩
          have hx := Hx.out
          rw [e, Hy.out] at hx
          injection hx with hx
          subst hx
          simp at hne
        · have heq : (x != y) = false := by assumption
          go_roundw
          case rel =>
            refine ⟨k + 1, q + nq, by omega, by first | rfl | go_num, ?_, rfl⟩
            obtain ⟨hx1, hx2⟩ := List.getElem?_eq_some_iff.1 Hx.out
            obtain ⟨hy1, hy2⟩ := List.getElem?_eq_some_iff.1 Hy.out
            rw [List.take_succ_eq_append_getElem hx1, List.take_succ_eq_append_getElem hy1, Ht.out, hx2, hy2]
            have : x = y := by simpa using heq
            rw [this]
          case measure => simp [intOf]; omega
      · go_wp2
        go_ret
        refine ⟨congrArg (fun b => Ending.returned (.bool b)) (beq_iff_eq.2 ?_).symm, q, rfl⟩
        have := Ht.out
        rwa [List.take_of_length_le (by have := Hn.out; omega), List.take_of_length_le (by have := Hm.out; omega)] at this
  · go_enter Try.func16, Try.ntmps16
    go_wp2
    go_ret
    exact ⟨congrArg (fun b => Ending.returned (.bool b)) (beq_eq_false_iff_ne.2 fun e => h (by rw [← hn, ← hm, e])).symm, 0, rfl⟩
end Go.Proofs.Ytcocakbopbehjaa
