/- The bag's Drop, and what Spoil, Drop and Twice refuse. -/
import Derived.Test.YtciolppoanfiaaaDoorZBagC
namespace Go.Proofs.YtciolppoanfiaaaDoor
open Go.RowKit Go.ChangeMaps
section
variable {H : Nat} {w : World} {O : Nat → Prop} {g : Nat} {fs : List (List UInt8)} {ks : List (Int × Int)} {lost : Nat}
set_option maxRecDepth 100000 in
theorem bdrop_no (i : Int) (w : World) (h : BagAt H w O g fs ks lost) (hi : ¬ (0 ≤ i ∧ i < (fs.length : Int))) :
    Calls Tryd.prog 44 #[.pointer (some ⟨g, 0, none⟩), .int .i64 i] w fun e w' => e = .returned (.int .i64 1) ∧ w = w' := by
  have hc := bhas_any i _ h (decide_eq_false hi)
  have HC := Lib.hid hc
  clear hc hi h
  go_enter Tryd.func44, Tryd.ntmps44
  go_wp2_with fail
  refine HC.out.mono ?_
  rintro e _ ⟨rfl, rfl⟩
  go_wp2
  go_ret
  exact ⟨rfl, rfl⟩
set_option maxRecDepth 100000 in
theorem bdrop_ok (i : Nat) (w : World) (h : BagAt H w O g fs ks lost) (hi : i < fs.length) (hn : fs.length ≤ 1000) (hlo : lost < 1000000) :
    Calls Tryd.prog 44 #[.pointer (some ⟨g, 0, none⟩), .int .i64 (i : Int)] w fun e w' => e = .returned (.int .i64 0) ∧ BagAt H w' O g (fs.eraseIdx i) ks (lost + 1) ∧ Chg O w w' := by
  have hc := bhas_any (i : Int) _ h (b := true) (decide_eq_true (by omega))
  have ht := btake_any w i h hi hn
  have HC := Lib.hid hc
  have HT := Lib.hid ht
  clear hc ht hi hn h
  go_enter Tryd.func44, Tryd.ntmps44
  go_wp2_with fail
  refine HC.out.mono ?_
  rintro e _ ⟨rfl, rfl⟩
  go_wp2_with fail
  refine HT.out.mono ?_
  rintro e w1 ⟨rfl, B1, c1, -⟩
  obtain ⟨L1, L2, -⟩ := B1.lose1
  have HL1 := Lib.hid L1
  have HL2 := Lib.hid (c1.same L2)
  have hb := B1
  obtain ⟨-, -, -, v, mb, F, hb, -, -, -, -⟩ := hb
  obtain ⟨x0, x1, x2⟩ := hb.c3
  have f2 := hb.frozen 2
  clear hb B1 c1 L1 L2 HC HT x0 x1
  go_wp2
  go_ret
  exact ⟨rfl, HL1.out, HL2.out⟩
set_option maxRecDepth 100000 in
theorem btwice_no (i : Int) (w : World) (h : BagAt H w O g fs ks lost) (hi : ¬ (0 ≤ i ∧ i < (fs.length : Int))) :
    Calls Tryd.prog 43 #[.pointer (some ⟨g, 0, none⟩), .int .i64 i] w fun e w' => e = .returned (.int .i64 1) ∧ w = w' := by
  have hc := bhas_any i _ h (decide_eq_false hi)
  have HC := Lib.hid hc
  clear hc hi h
  go_enter Tryd.func43, Tryd.ntmps43
  go_wp2_with fail
  refine HC.out.mono ?_
  rintro e _ ⟨rfl, rfl⟩
  go_wp2
  go_ret
  exact ⟨rfl, rfl⟩
set_option maxRecDepth 100000 in
theorem btwice_full (i : Nat) (w : World) (h : BagAt H w O g fs ks lost) (hi : i < fs.length) (h60 : 60 ≤ fs.length) :
    Calls Tryd.prog 43 #[.pointer (some ⟨g, 0, none⟩), .int .i64 (i : Int)] w fun e w' => e = .returned (.int .i64 42) ∧ w = w' := by
  have hc := bhas_any (i : Int) _ h (b := true) (decide_eq_true (by omega))
  have hf := bfull_any w h (b := true) (decide_eq_true h60)
  have HC := Lib.hid hc
  have HF := Lib.hid hf
  clear hc hf hi h60 h
  go_enter Tryd.func43, Tryd.ntmps43
  go_wp2_with fail
  refine HC.out.mono ?_
  rintro e _ ⟨rfl, rfl⟩
  go_wp2_with fail
  refine HF.out.mono ?_
  rintro e _ ⟨rfl, rfl⟩
  go_wp2
  go_ret
  exact ⟨rfl, rfl⟩
end
end Go.Proofs.YtciolppoanfiaaaDoor
