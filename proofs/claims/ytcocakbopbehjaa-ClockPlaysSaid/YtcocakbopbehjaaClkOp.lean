/- What is done to clocks: a list of it that came in. -/
import Derived.Test.YtcocakbopbehjaaPKitC
namespace Go.Proofs.Ytcocakbopbehjaa
open Go.ChangeShapes Go.WideShapes Go.ChangeAt Go.RowKit Go.Deep
structure COp where
  op : Int
  node : Int
  id : Int
  by_ : Nat
def ocells : List COp → List Value
  | [] => []
  | e :: es => .int .i64 e.op :: .int .i64 e.node :: .int .i64 e.id :: .int .u64 (e.by_ : Int) :: ocells es
theorem ocells_len (es : List COp) : (ocells es).length = es.length * 4 := by
  induction es with
  | nil => rfl
  | cons e es ih => simp only [ocells, List.length_cons, ih]; omega
theorem ocells_append (es fs : List COp) : ocells (es ++ fs) = ocells es ++ ocells fs := by
  induction es with
  | nil => rfl
  | cons e es ih => simp only [ocells, List.cons_append, ih]
theorem ocells_at (es : List COp) (k : Nat) (e : COp) (h : es[k]? = some e) : (ocells es)[k * 4]? = some (.int .i64 e.op) ∧ (ocells es)[k * 4 + 1]? = some (.int .i64 e.node) ∧ (ocells es)[k * 4 + 2]? = some (.int .i64 e.id) ∧ (ocells es)[k * 4 + 3]? = some (.int .u64 (e.by_ : Int)) := by
  induction k generalizing es with
  | zero =>
    cases es with
    | nil => simp at h
    | cons x es =>
      simp at h
      subst h
      exact ⟨rfl, rfl, rfl, rfl⟩
  | succ k ih =>
    cases es with
    | nil => simp at h
    | cons x es =>
      have := ih es (by simpa using h)
      rw [Nat.succ_mul]
      simpa only [ocells, List.getElem?_cons_succ] using this
/-- one of them: its four cells -/
theorem Sl.opAt {w : World} {lo hi n c k : Nat} {A : Option Addr} {es : List COp} {e : COp} (h : Sl w lo hi 4 A n c (ocells es)) (hk : k < n) (he : es[k]? = some e) :
    ∃ ad, A = some ad ∧ w.cell? (ad.add (k * 4)) = some (.int .i64 e.op) ∧ w.cell? ⟨(ad.add (k * 4)).block, (ad.add (k * 4)).off + 1, none⟩ = some (.int .i64 e.node) ∧ w.cell? ⟨(ad.add (k * 4)).block, (ad.add (k * 4)).off + 2, none⟩ = some (.int .i64 e.id) ∧ w.cell? ⟨(ad.add (k * 4)).block, (ad.add (k * 4)).off + 3, none⟩ = some (.int .u64 (e.by_ : Int)) := by
  obtain ⟨ad, ea, _, _, hc⟩ := h.at_ (by omega)
  obtain ⟨h0, h1, h2, h3⟩ := ocells_at es k e he
  have a0 := hc _ _ h0
  refine ⟨ad, ea, a0, ?_, ?_, ?_⟩
  · rw [← add_off a0, add_of_add]; exact hc _ _ h1
  · rw [← add_off a0, add_of_add]; exact hc _ _ h2
  · rw [← add_off a0, add_of_add]; exact hc _ _ h3
/-- v is a slice of them that reads as os -/
def Ops (W : World) (v : Value) (os : List COp) : Prop := ∃ A c lo hi, v = .slice A os.length c ∧ Sl W lo hi 4 A os.length c (ocells os) ∧ ∀ o ∈ os, o.by_ < 18446744073709551616
set_option maxRecDepth 100000 in
theorem op_cells {H : Type} {enc : TypeId × Value → H} {W : World} {base n : Nat} {spare : Nat → Bool} {held : Bool} {v0 v1 v2 v3 : Value} {y0 y1 y2 y3 : DataW H × List MemPlace}
    (h0 : DataW.trod enc Try.prog W base spare held n 3 [v0] = some y0) (h1 : DataW.trod enc Try.prog W base spare held n 3 [v1] = some y1) (h2 : DataW.trod enc Try.prog W base spare held n 3 [v2] = some y2) (h3 : DataW.trod enc Try.prog W base spare held n 22 [v3] = some y3) :
    ∃ e : COp, v0 = .int .i64 e.op ∧ v1 = .int .i64 e.node ∧ v2 = .int .i64 e.id ∧ v3 = .int .u64 (e.by_ : Int) ∧ e.by_ < 18446744073709551616 := by
  obtain ⟨z0, hz0, _, hw0⟩ := DataW.trod_int Try.underlying3 h0
  obtain ⟨z1, hz1, _, hw1⟩ := DataW.trod_int Try.underlying3 h1
  obtain ⟨z2, hz2, _, hw2⟩ := DataW.trod_int Try.underlying3 h2
  obtain ⟨z3, hz3, _, hw3⟩ := DataW.trod_int Try.underlying22 h3
  obtain ⟨m, hm, rfl⟩ := nat_u64 hw3
  exact ⟨⟨z0, z1, z2, m⟩, by simpa using hz0, by simpa using hz1, by simpa using hz2, by simpa using hz3, hm⟩
set_option maxRecDepth 100000 in
theorem open_ops {H : Type} {enc : TypeId × Value → H} {W : World} {base : Nat} {v : Value} {d : DataW H} {p : List MemPlace} (hv : Value.okWide Try.prog W .any base 40 v)
    (h : DataW.Trod enc Try.prog W 0 (fun _ => true) true 40 v d p) : ∃ os, Ops W v os := by
  obtain ⟨a0, n, c, rfl⟩ := okWide_slice Try.underlying40 hv
  obtain ⟨fuel, hf⟩ := h
  have hf' : DataW.trod enc Try.prog W 0 (fun _ => true) true fuel 40 [.slice a0 n c] = some (d, p) := by simpa [Value.cells] using hf
  rcases open_slice_fields Try.underlying40 Try.underlying45 (by kernel_rfl) (by kernel_rfl) hf' with ⟨hcs, _⟩ | ⟨a, len, cap, m, hcs, hl, hm, hmm, hi⟩
  · simp at hcs
    obtain ⟨rfl, rfl, rfl⟩ := hcs
    exact ⟨[], none, 0, 0, 0, rfl, Sl.nil_ _ _ _ _, fun e he => by cases he⟩
  · simp at hcs
    obtain ⟨rfl, rfl, rfl⟩ := hcs
    have hlm : n ≤ m := by rw [hmm]; split <;> omega
    have hex : ∀ k, k ≤ n → ∃ es : List COp, es.length = k ∧ (∀ j u, (ocells es)[j]? = some u → W.cell? (a.add j) = some u) ∧ ∀ e ∈ es, e.by_ < 18446744073709551616 := by
      intro k
      induction k with
      | zero => exact fun _ => ⟨[], rfl, fun j u h => by simp [ocells] at h, fun e he => by simp at he⟩
      | succ k ih =>
        intro hk
        obtain ⟨es, h1, h2, h3⟩ := ih (by omega)
        obtain ⟨n', hn⟩ := hi k (by omega)
        obtain ⟨v0, y0, c0, t0⟩ := hn 0 _ rfl
        obtain ⟨v1, y1, c1, t1⟩ := hn 1 _ rfl
        obtain ⟨v2, y2, c2, t2⟩ := hn 2 _ rfl
        obtain ⟨v3, y3, c3, t3⟩ := hn 3 _ rfl
        obtain ⟨e, rfl, rfl, rfl, rfl, hb⟩ := op_cells t0 t1 t2 t3
        refine ⟨es ++ [e], by simp [h1], fun j u hu => ?_, fun e' he' => ?_⟩
        · rw [ocells_append] at hu
          have hlen : (ocells es).length = k * 4 := by rw [ocells_len, h1]
          by_cases hj : j < k * 4
          · rw [List.getElem?_append_left (by omega)] at hu
            exact h2 j u hu
          · rw [List.getElem?_append_right (by omega), hlen] at hu
            obtain ⟨i, rfl⟩ : ∃ i, j = k * 4 + i := ⟨j - k * 4, by omega⟩
            rw [Nat.add_sub_cancel_left] at hu
            match i, hu with
            | 0, hu => simp [ocells] at hu; subst hu; exact c0
            | 1, hu => simp [ocells] at hu; subst hu; exact c1
            | 2, hu => simp [ocells] at hu; subst hu; exact c2
            | 3, hu => simp [ocells] at hu; subst hu; exact c3
            | i + 4, hu => simp [ocells] at hu
        · rcases List.mem_append.1 he' with h | h
          · exact h3 e' h
          · rw [List.mem_singleton.1 h]; exact hb
    obtain ⟨es, h1, h2, h3⟩ := hex n (Nat.le_refl _)
    subst h1
    exact ⟨es, some a, c, 0, a.block + 1, rfl, ⟨ocells_len es, hl, by simpa [maxLen] using hm, fun _ => ⟨a, rfl, Nat.zero_le _, Nat.lt_succ_self _, h2⟩⟩, h3⟩
end Go.Proofs.Ytcocakbopbehjaa
