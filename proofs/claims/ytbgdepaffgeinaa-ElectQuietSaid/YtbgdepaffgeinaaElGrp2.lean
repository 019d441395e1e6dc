/- A group's rows grow. -/
import Derived.Test.YtbgdepaffgeinaaElGrp
namespace Go.Proofs.Ytbgdepaffgeinaa
open Go.RowKit
section
variable {H : Nat} {w wq w4 : World} {g : Nat} {r : GR} {xs : List GN} {G : GP}
theorem GrpP.msgs_ (h : GrpP H w g r xs G) {v4 : Value} {ms : List Ms} (hq : Below w.heap.size w wq) (hown : w4.ownsRow H 81 10 v4 (G.msgs ++ ms).length (mcells (G.msgs ++ ms))) (hg4 : wq.grownBy w4 r.mv.ownBlock) (hat : v4.ownBlock = r.mv.ownBlock ∨ ∀ k, v4.ownBlock = some k → w.heap.size ≤ k) :
    GrpP H (w4.setCell ⟨g, 1, none⟩ v4) g { r with mv := v4 } xs { G with msgs := G.msgs ++ ms } ∧ Chg (fun k => k = g ∨ r.mv.ownBlock = some k) w (w4.setCell ⟨g, 1, none⟩ v4) := by
  have hc : Chg (fun k => k = g ∨ r.mv.ownBlock = some k) w (w4.setCell ⟨g, 1, none⟩ v4) := ((Chg.below hq).same (Chg.grown hg4 fun k e => .inl (.inr e))).put (.inl rfl) 1 v4
  have hrg : r.mv.ownBlock ≠ some g := row_ne h.msgs h.blk (by decide)
  have hb4 := (h.blk.after hq).grown hg4 fun e => hrg e.symm
  have hvg : v4.ownBlock ≠ some g := row_ne hown hb4 (by decide)
  have hW : ∀ k, (k = g ∨ r.mv.ownBlock = some k) → r.W g k := fun k hk => hk.elim .inl fun e => .inr (.inr (.inl e))
  have hH : ∀ k, (k = g ∨ r.mv.ownBlock = some k) → H ≤ k := fun k hk => hk.elim (fun e => by rw [e]; exact h.hg) fun e => (h.msgs.lt k e).1
  have r_nodes : ∀ k, r.nv.ownBlock = some k → ¬ (k = g ∨ r.mv.ownBlock = some k) := fun k hk hk' => hk'.elim (fun e => row_ne h.nodes h.blk (by decide) (by rw [hk, e])) fun e => row_ne_row h.nodes h.msgs (by decide) k hk e
  have r_terms : ∀ k, r.tv.ownBlock = some k → ¬ (k = g ∨ r.mv.ownBlock = some k) := fun k hk hk' => hk'.elim (fun e => row_ne h.terms h.blk (by decide) (by rw [hk, e])) fun e => row_ne_row h.terms h.msgs (by decide) k hk e
  have r_leads : ∀ k, r.lv.ownBlock = some k → ¬ (k = g ∨ r.mv.ownBlock = some k) := fun k hk hk' => hk'.elim (fun e => row_ne h.leads h.blk (by decide) (by rw [hk, e])) fun e => row_ne_row h.leads h.msgs (by decide) k hk e
  refine ⟨⟨by have := hb4.set_ 1 v4; simpa [GR.cells] using this, own_chg h.nodes hc r_nodes, own_far hown hvg _ _, own_chg h.terms hc r_terms, own_chg h.leads hc r_leads, h.hg, h.is, fun y hy => (h.node y hy).other hc (fun k hk hk' => h.off y hy k hk (hW k hk')) hH, ?_, h.apart⟩, hc⟩
  intro y hy k hk hw
  have hlt := (h.node y hy).top k hk
  have hno := h.off y hy k hk
  unfold GR.W at hw hno
  simp only [not_or] at hno
  obtain ⟨n1, n2, n3, n4, n5⟩ := hno
  rcases hw with hw | hw | hw | hw | hw
  · exact n1 hw
  · exact n2 hw
  · rcases hat with e | e
    · exact n3 (by rw [← e]; exact hw)
    · have := e k hw; omega
  · exact n4 hw
  · exact n5 hw
theorem GrpP.terms_ (h : GrpP H w g r xs G) {v4 : Value} {ts : List Nat} (hq : Below w.heap.size w wq) (hown : w4.ownsRow H 22 1 v4 (G.terms ++ ts).length ((G.terms ++ ts).map uv)) (hg4 : wq.grownBy w4 r.tv.ownBlock) (hat : v4.ownBlock = r.tv.ownBlock ∨ ∀ k, v4.ownBlock = some k → w.heap.size ≤ k) :
    GrpP H (w4.setCell ⟨g, 2, none⟩ v4) g { r with tv := v4 } xs { G with terms := G.terms ++ ts } ∧ Chg (fun k => k = g ∨ r.tv.ownBlock = some k) w (w4.setCell ⟨g, 2, none⟩ v4) := by
  have hc : Chg (fun k => k = g ∨ r.tv.ownBlock = some k) w (w4.setCell ⟨g, 2, none⟩ v4) := ((Chg.below hq).same (Chg.grown hg4 fun k e => .inl (.inr e))).put (.inl rfl) 2 v4
  have hrg : r.tv.ownBlock ≠ some g := row_ne h.terms h.blk (by decide)
  have hb4 := (h.blk.after hq).grown hg4 fun e => hrg e.symm
  have hvg : v4.ownBlock ≠ some g := row_ne hown hb4 (by decide)
  have hW : ∀ k, (k = g ∨ r.tv.ownBlock = some k) → r.W g k := fun k hk => hk.elim .inl fun e => .inr (.inr (.inr (.inl e)))
  have hH : ∀ k, (k = g ∨ r.tv.ownBlock = some k) → H ≤ k := fun k hk => hk.elim (fun e => by rw [e]; exact h.hg) fun e => (h.terms.lt k e).1
  have r_nodes : ∀ k, r.nv.ownBlock = some k → ¬ (k = g ∨ r.tv.ownBlock = some k) := fun k hk hk' => hk'.elim (fun e => row_ne h.nodes h.blk (by decide) (by rw [hk, e])) fun e => row_ne_row h.nodes h.terms (by decide) k hk e
  have r_msgs : ∀ k, r.mv.ownBlock = some k → ¬ (k = g ∨ r.tv.ownBlock = some k) := fun k hk hk' => hk'.elim (fun e => row_ne h.msgs h.blk (by decide) (by rw [hk, e])) fun e => row_ne_row h.msgs h.terms (by decide) k hk e
  have r_leads : ∀ k, r.lv.ownBlock = some k → ¬ (k = g ∨ r.tv.ownBlock = some k) := fun k hk hk' => hk'.elim (fun e => row_ne h.leads h.blk (by decide) (by rw [hk, e])) fun e => row_ne_row h.leads h.terms (by decide) k hk e
  refine ⟨⟨by have := hb4.set_ 2 v4; simpa [GR.cells] using this, own_chg h.nodes hc r_nodes, own_chg h.msgs hc r_msgs, own_far hown hvg _ _, own_chg h.leads hc r_leads, h.hg, h.is, fun y hy => (h.node y hy).other hc (fun k hk hk' => h.off y hy k hk (hW k hk')) hH, ?_, h.apart⟩, hc⟩
  intro y hy k hk hw
  have hlt := (h.node y hy).top k hk
  have hno := h.off y hy k hk
  unfold GR.W at hw hno
  simp only [not_or] at hno
  obtain ⟨n1, n2, n3, n4, n5⟩ := hno
  rcases hw with hw | hw | hw | hw | hw
  · exact n1 hw
  · exact n2 hw
  · exact n3 hw
  · rcases hat with e | e
    · exact n4 (by rw [← e]; exact hw)
    · have := e k hw; omega
  · exact n5 hw
theorem GrpP.leads_ (h : GrpP H w g r xs G) {v4 : Value} {ls : List Int} (hq : Below w.heap.size w wq) (hown : w4.ownsRow H 3 1 v4 (G.leads ++ ls).length ((G.leads ++ ls).map iv)) (hg4 : wq.grownBy w4 r.lv.ownBlock) (hat : v4.ownBlock = r.lv.ownBlock ∨ ∀ k, v4.ownBlock = some k → w.heap.size ≤ k) :
    GrpP H (w4.setCell ⟨g, 3, none⟩ v4) g { r with lv := v4 } xs { G with leads := G.leads ++ ls } ∧ Chg (fun k => k = g ∨ r.lv.ownBlock = some k) w (w4.setCell ⟨g, 3, none⟩ v4) := by
  have hc : Chg (fun k => k = g ∨ r.lv.ownBlock = some k) w (w4.setCell ⟨g, 3, none⟩ v4) := ((Chg.below hq).same (Chg.grown hg4 fun k e => .inl (.inr e))).put (.inl rfl) 3 v4
  have hrg : r.lv.ownBlock ≠ some g := row_ne h.leads h.blk (by decide)
  have hb4 := (h.blk.after hq).grown hg4 fun e => hrg e.symm
  have hvg : v4.ownBlock ≠ some g := row_ne hown hb4 (by decide)
  have hW : ∀ k, (k = g ∨ r.lv.ownBlock = some k) → r.W g k := fun k hk => hk.elim .inl fun e => .inr (.inr (.inr (.inr e)))
  have hH : ∀ k, (k = g ∨ r.lv.ownBlock = some k) → H ≤ k := fun k hk => hk.elim (fun e => by rw [e]; exact h.hg) fun e => (h.leads.lt k e).1
  have r_nodes : ∀ k, r.nv.ownBlock = some k → ¬ (k = g ∨ r.lv.ownBlock = some k) := fun k hk hk' => hk'.elim (fun e => row_ne h.nodes h.blk (by decide) (by rw [hk, e])) fun e => row_ne_row h.nodes h.leads (by decide) k hk e
  have r_msgs : ∀ k, r.mv.ownBlock = some k → ¬ (k = g ∨ r.lv.ownBlock = some k) := fun k hk hk' => hk'.elim (fun e => row_ne h.msgs h.blk (by decide) (by rw [hk, e])) fun e => row_ne_row h.msgs h.leads (by decide) k hk e
  have r_terms : ∀ k, r.tv.ownBlock = some k → ¬ (k = g ∨ r.lv.ownBlock = some k) := fun k hk hk' => hk'.elim (fun e => row_ne h.terms h.blk (by decide) (by rw [hk, e])) fun e => row_ne_row h.terms h.leads (by decide) k hk e
  refine ⟨⟨by have := hb4.set_ 3 v4; simpa [GR.cells] using this, own_chg h.nodes hc r_nodes, own_chg h.msgs hc r_msgs, own_chg h.terms hc r_terms, own_far hown hvg _ _, h.hg, h.is, fun y hy => (h.node y hy).other hc (fun k hk hk' => h.off y hy k hk (hW k hk')) hH, ?_, h.apart⟩, hc⟩
  intro y hy k hk hw
  have hlt := (h.node y hy).top k hk
  have hno := h.off y hy k hk
  unfold GR.W at hw hno
  simp only [not_or] at hno
  obtain ⟨n1, n2, n3, n4, n5⟩ := hno
  rcases hw with hw | hw | hw | hw | hw
  · exact n1 hw
  · exact n2 hw
  · exact n3 hw
  · exact n4 hw
  · rcases hat with e | e
    · exact n5 (by rw [← e]; exact hw)
    · have := e k hw; omega
end
end Go.Proofs.Ytbgdepaffgeinaa
