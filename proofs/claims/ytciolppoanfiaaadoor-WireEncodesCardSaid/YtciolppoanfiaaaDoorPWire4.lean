import Derived.Test.YtciolppoanfiaaaDoorPWire3
namespace Go.Proofs.YtciolppoanfiaaaDoor

theorem rawB_nil (a0 a1 a2 fl te ix pr co n : Nat) (d : List UInt8) (es : List Key) : rawB a0 a1 a2 fl te ix pr co n d es [] = nums [a0, a1, a2, fl] 1 ++ (nums [te, ix, pr, co] 8 ++ (bytesF d ++ (num n 1 ++ encKs es))) := by
  simp [rawB, nums, List.append_assoc]
theorem rawB_app (a0 a1 a2 fl te ix pr co n : Nat) (d : List UInt8) (es : List Key) (b c : List UInt8) : rawB a0 a1 a2 fl te ix pr co n d es b ++ c = rawB a0 a1 a2 fl te ix pr co n d es (b ++ c) := by
  simp [rawB, List.append_assoc]
theorem decC_un {l : List UInt8} (h : decC l = 0) : (entsV l).2.2 = false ∧ (entsV l).2.1 = [] ∧ flagV l ≤ 1 ∧ (decP l).check = 0 := by
  unfold decC at h
  by_cases h1 : endE (entsV l).2.2 (entsV l).2.1 = 0
  · rw [if_neg (by omega)] at h
    by_cases h2 : 1 < flagV l
    · rw [if_pos h2] at h; cases h
    · rw [if_neg h2] at h
      refine ⟨?_, ?_, by omega, h⟩
      · cases hx : (entsV l).2.2 with
        | false => rfl
        | true => rw [hx] at h1; simp [endE] at h1
      · unfold endE at h1
        split at h1
        · cases h1
        · split at h1
          · cases h1
          · exact List.eq_nil_of_length_eq_zero (by omega)
  · rw [if_pos h1] at h
    exact absurd h h1
/-- what is read is written -/
theorem read_written {l : List UInt8} (h : decC l = 0) : (decP l).enc = l ∧ (decP l).check = 0 := by
  obtain ⟨h1, h2, h3, h4⟩ := decC_un h
  obtain ⟨a0, a1, a2, fl, te, ix, pr, co, d, es, b, e1, _, _, _, _, e2, e3, e4⟩ := raw_un h1
  refine ⟨?_, h4⟩
  rw [e4] at h2
  have hb : b = [] := h2
  subst hb
  rw [e3] at h3
  rw [e2, e1, rawB_nil]
  have hfl : (((fl : Nat) : Int) == 1).toNat = fl := by
    rcases Nat.le_one_iff_eq_zero_or_eq_one.1 h3 with rfl | rfl <;> rfl
  simp only [PMsg.enc, Int.toNat_natCast, hfl]
/-- cut short it is none -/
theorem cut_short {l : List UInt8} (h : decC l = 0) {k : Nat} (hk : k < l.length) : decC (l.take k) = 10 := by
  obtain ⟨h1, h2, _, _⟩ := decC_un h
  have hs : (entsV (l.take k)).2.2 = true := by
    cases hx : (entsV (l.take k)).2.2 with
    | true => rfl
    | false =>
      obtain ⟨a0, a1, a2, fl, te, ix, pr, co, d, es, b, e1, q1, q2, q3, q4, _, _, _⟩ := raw_un hx
      have hl : l = rawB a0 a1 a2 fl te ix pr co es.length d es (b ++ l.drop k) := by
        rw [← rawB_app, ← e1, List.take_append_drop]
      obtain ⟨_, _, e4⟩ := raw_app (b := b ++ l.drop k) q1 q2 q3 q4
      rw [← hl] at e4
      rw [e4] at h2
      have h2' : b ++ l.drop k = [] := h2
      have := congrArg List.length h2'
      simp at this
      omega
  unfold decC
  rw [hs]
  simp [endE]
/-- the bounds of a message that is right, its numbers of 64 bits -/
def PMsg.fits (p : PMsg) : Prop := (p.te < 18446744073709551616 ∧ p.ix < 18446744073709551616 ∧ p.pr < 18446744073709551616 ∧ p.co < 18446744073709551616) ∧ ∀ e ∈ p.es, e.1 < 18446744073709551616
theorem check_of {p : PMsg} (h : p.check = 0) : (1 ≤ p.k ∧ p.k ≤ 12) ∧ (0 ≤ p.f ∧ p.f ≤ 15) ∧ (0 ≤ p.t ∧ p.t ≤ 15) ∧ p.d.length ≤ 700 ∧ p.es.length ≤ 8 ∧ ∀ e ∈ p.es, e.2.2.length ≤ 24 ∧ 0 ≤ e.2.1 ∧ e.2.1 ≤ 255 := by
  unfold PMsg.check checkK at h
  split at h
  · cases h
  · split at h
    · cases h
    · split at h
      · cases h
      · split at h
        · cases h
        · next a b c d =>
          refine ⟨by omega, by omega, by omega, by omega, by omega, fun e he => ?_⟩
          have h1 : e.2.2.length ≤ 24 := by
            refine Decidable.byContradiction fun hn => c (.inr (.inr (List.any_eq_true.2 ⟨e, he, ?_⟩)))
            simp only [longK, decide_eq_true_eq]
            omega
          have h2 : 0 ≤ e.2.1 ∧ e.2.1 ≤ 255 := by
            refine Decidable.byContradiction fun hn => d (List.any_eq_true.2 ⟨e, he, ?_⟩)
            simp only [strangeK, decide_eq_true_eq]
            omega
          exact ⟨h1, h2⟩
/-- what is written is read -/
theorem written_read {p : PMsg} (h : p.check = 0) (hf : p.fits) : decP p.enc = p := by
  obtain ⟨⟨k1, k2⟩, ⟨f1, f2⟩, ⟨t1, t2⟩, hd, hn, he⟩ := check_of h
  obtain ⟨h8, h9⟩ := hf
  obtain ⟨k, f, t, te, ix, pr, co, ok, d, es⟩ := p
  simp only at k1 k2 f1 f2 t1 t2 hd hn he h8 h9
  obtain ⟨kn, rfl⟩ : ∃ n : Nat, k = (n : Int) := ⟨k.toNat, by omega⟩
  obtain ⟨fn, rfl⟩ : ∃ n : Nat, f = (n : Int) := ⟨f.toNat, by omega⟩
  obtain ⟨tn, rfl⟩ : ∃ n : Nat, t = (n : Int) := ⟨t.toNat, by omega⟩
  have hb := ok.toNat_le
  obtain ⟨e1, _, _⟩ := raw_app (a0 := kn) (a1 := fn) (a2 := tn) (fl := ok.toNat) (b := []) (es := es) (d := d) ⟨by omega, by omega, by omega, by omega, by omega⟩ h8 (by omega) (fun e hm => ⟨h9 e hm, (he e hm).2.1, by have := (he e hm).2.2; omega, by have := (he e hm).1; omega⟩)
  rw [rawB_nil] at e1
  unfold PMsg.enc
  simp only [Int.toNat_natCast]
  rw [e1]
  cases ok <;> rfl
theorem enc_inj {p q : PMsg} (hp : p.check = 0) (hq : q.check = 0) (fp : p.fits) (fq : q.fits) (h : p.enc = q.enc) : p = q := by
  rw [← written_read hp fp, ← written_read hq fq, h]
end Go.Proofs.YtciolppoanfiaaaDoor
