/- Rows of messages: cells in tens. -/
import Derived.Test.YtciolppoanfiaaaDoorXMsgSame
namespace Go.Proofs.YtciolppoanfiaaaDoor
open Go.RowKit
def mlist (m : Msg) : List Value := [.int .i64 m.k, .int .i64 m.f, .int .i64 m.t, .int .u64 (m.te : Int), .int .u64 (m.ix : Int), .int .u64 (m.pr : Int), .int .u64 (m.co : Int), .bool m.ok, .slice m.dA m.d.length m.dc, .slice m.eA m.es.length m.ec]
theorem mlist_v (m : Msg) : m.v = .agg (mlist m).toArray := rfl
def mscells : List Msg → List Value
  | [] => []
  | m :: ms => .int .i64 m.k :: .int .i64 m.f :: .int .i64 m.t :: .int .u64 (m.te : Int) :: .int .u64 (m.ix : Int) :: .int .u64 (m.pr : Int) :: .int .u64 (m.co : Int) :: .bool m.ok :: .slice m.dA m.d.length m.dc :: .slice m.eA m.es.length m.ec :: mscells ms
theorem mscells_len (ms : List Msg) : (mscells ms).length = ms.length * 10 := by
  induction ms with
  | nil => rfl
  | cons m ms ih => simp only [mscells, List.length_cons, ih]; omega
theorem mscells_append (ms ns : List Msg) : mscells (ms ++ ns) = mscells ms ++ mscells ns := by
  induction ms with
  | nil => rfl
  | cons m ms ih => simp only [mscells, List.cons_append, ih]
theorem mscells_one' (m : Msg) : mscells [m] = mlist m := rfl
theorem mscells_drop (ms : List Msg) (k : Nat) : mscells (ms.drop k) = (mscells ms).drop (k * 10) := by
  induction k generalizing ms with
  | zero => simp
  | succ k ih =>
    cases ms with
    | nil => simp [mscells]
    | cons m ms =>
      rw [Nat.succ_mul]
      simp only [mscells, List.drop_succ_cons]
      exact ih ms
theorem mscells_take (ms : List Msg) (k : Nat) : mscells (ms.take k) = (mscells ms).take (k * 10) := by
  induction k generalizing ms with
  | zero => simp [mscells]
  | succ k ih =>
    cases ms with
    | nil => simp [mscells]
    | cons m ms =>
      rw [Nat.succ_mul]
      simp only [mscells, List.take_succ_cons]
      rw [ih ms]
theorem mscells_at (ms : List Msg) (k : Nat) (m : Msg) (h : ms[k]? = some m) : (mscells ms)[k * 10]? = some (.int .i64 m.k) ∧ (mscells ms)[k * 10 + 1]? = some (.int .i64 m.f) ∧ (mscells ms)[k * 10 + 2]? = some (.int .i64 m.t) ∧ (mscells ms)[k * 10 + 3]? = some (.int .u64 (m.te : Int)) ∧ (mscells ms)[k * 10 + 4]? = some (.int .u64 (m.ix : Int)) ∧ (mscells ms)[k * 10 + 5]? = some (.int .u64 (m.pr : Int)) ∧ (mscells ms)[k * 10 + 6]? = some (.int .u64 (m.co : Int)) ∧ (mscells ms)[k * 10 + 7]? = some (.bool m.ok) ∧ (mscells ms)[k * 10 + 8]? = some (.slice m.dA m.d.length m.dc) ∧ (mscells ms)[k * 10 + 9]? = some (.slice m.eA m.es.length m.ec) := by
  induction k generalizing ms with
  | zero =>
    cases ms with
    | nil => simp at h
    | cons x ms =>
      simp at h
      subst h
      exact ⟨rfl, rfl, rfl, rfl, rfl, rfl, rfl, rfl, rfl, rfl⟩
  | succ k ih =>
    cases ms with
    | nil => simp at h
    | cons x ms =>
      have := ih ms (by simpa using h)
      rw [Nat.succ_mul]
      simpa only [mscells, Nat.add_right_comm _ 10, List.getElem?_cons_succ] using this
theorem ms_one (ms : List Msg) : ∀ u ∈ mscells ms, u.oneCell' = true := by
  induction ms with
  | nil => intro u hu; cases hu
  | cons m ms ih =>
    intro u hu
    simp only [mscells, List.mem_cons] at hu
    rcases hu with rfl | rfl | rfl | rfl | rfl | rfl | rfl | rfl | rfl | rfl | hu
    all_goals first | rfl | exact ih u hu
theorem msg_info : (Tryd.prog.info? 41).map (fun i => (i.zero, i.size, i.bytes)) = some (some (.agg #[.int .i64 0, .int .i64 0, .int .i64 0, .int .u64 0, .int .u64 0, .int .u64 0, .int .u64 0, .bool false, .slice none 0 0, .slice none 0 0]), 10, 112) := by kernel_rfl
theorem Sl.msgAt {w : World} {lo hi n c k : Nat} {ad : Addr} {ms : List Msg} {m : Msg} (h : Sl w lo hi 10 (some ad) n c (mscells ms)) (hm : ms[k]? = some m) :
    w.cell? (ad.add (k * 10)) = some (.int .i64 m.k) ∧ w.cell? ⟨(ad.add (k * 10)).block, (ad.add (k * 10)).off + 1, none⟩ = some (.int .i64 m.f) ∧ w.cell? ⟨(ad.add (k * 10)).block, (ad.add (k * 10)).off + 2, none⟩ = some (.int .i64 m.t) ∧ w.cell? ⟨(ad.add (k * 10)).block, (ad.add (k * 10)).off + 3, none⟩ = some (.int .u64 (m.te : Int)) ∧ w.cell? ⟨(ad.add (k * 10)).block, (ad.add (k * 10)).off + 4, none⟩ = some (.int .u64 (m.ix : Int)) ∧ w.cell? ⟨(ad.add (k * 10)).block, (ad.add (k * 10)).off + 5, none⟩ = some (.int .u64 (m.pr : Int)) ∧ w.cell? ⟨(ad.add (k * 10)).block, (ad.add (k * 10)).off + 6, none⟩ = some (.int .u64 (m.co : Int)) ∧ w.cell? ⟨(ad.add (k * 10)).block, (ad.add (k * 10)).off + 7, none⟩ = some (.bool m.ok) ∧ w.cell? ⟨(ad.add (k * 10)).block, (ad.add (k * 10)).off + 8, none⟩ = some (.slice m.dA m.d.length m.dc) ∧ w.cell? ⟨(ad.add (k * 10)).block, (ad.add (k * 10)).off + 9, none⟩ = some (.slice m.eA m.es.length m.ec) := by
  have hl : k < ms.length := (List.getElem?_eq_some_iff.1 hm).1
  have hk : k < n := by have := h.len; rw [mscells_len] at this; omega
  obtain ⟨ad', e, _, _, hc⟩ := h.at_ (by omega)
  injection e with e
  subst e
  obtain ⟨h0, h1, h2, h3, h4, h5, h6, h7, h8, h9⟩ := mscells_at ms k m hm
  have a0 := hc _ _ h0
  have go : ∀ j u, (mscells ms)[k * 10 + j]? = some u → w.cell? ⟨(ad.add (k * 10)).block, (ad.add (k * 10)).off + j, none⟩ = some u := fun j u hu => by
    rw [← add_off a0, add_of_add]; exact hc _ _ hu
  exact ⟨a0, go 1 _ h1, go 2 _ h2, go 3 _ h3, go 4 _ h4, go 5 _ h5, go 6 _ h6, go 7 _ h7, go 8 _ h8, go 9 _ h9⟩
/-- the block just laid, as one message's cells -/
theorem sl_msg (w : World) (m : Msg) : Sl (w.alloc (.cells (mlist m).toArray 41)) w.heap.size (w.heap.size + 1) 10 (some ⟨w.heap.size, 0, none⟩) 1 1 (mscells [m]) :=
  sl_new w 10 1 1 (mlist m).toArray _ rfl (Nat.le_refl _) (by decide)
end Go.Proofs.YtciolppoanfiaaaDoor
