import Derived.Test.YtciolppoanfiaaaDoorPEnc
/- Messages as bytes, there and back: plain. -/
namespace Go.Proofs.YtciolppoanfiaaaDoor

theorem num_succ' (n k : Nat) : num n (k + 1) = UInt8.ofNat n :: num (n / 256) k := by
  induction k with
  | zero => simp [num]
  | succ k ih =>
    rw [show num n (k + 1 + 1) = num n (k + 1) ++ [UInt8.ofNat (n >>> (8 * (k + 1)))] from rfl, ih]
    rw [show num (n / 256) (k + 1) = num (n / 256) k ++ [UInt8.ofNat ((n / 256) >>> (8 * k))] from rfl]
    have : n >>> (8 * (k + 1)) = (n / 256) >>> (8 * k) := by
      rw [show 8 * (k + 1) = 8 + 8 * k by omega, Nat.shiftRight_add, Nat.shiftRight_eq_div_pow n 8]
    rw [this]
    rfl
theorem num_le (a : List UInt8) : num (le a) a.length = a := by
  induction a with
  | nil => rfl
  | cons b a ih =>
    have hb := b.toNat_lt
    rw [List.length_cons, num_succ']
    have h1 : le (b :: a) / 256 = le a := by simp only [le]; omega
    have h2 : UInt8.ofNat (le (b :: a)) = b := by
      apply UInt8.toNat_inj.1
      rw [UInt8.toNat_ofNat']
      simp only [le]
      omega
    rw [h1, h2, ih]
theorem le_num (v n : Nat) (h : v < 256 ^ n) : le (num v n) = v := by
  induction n generalizing v with
  | zero => simp at h; subst h; rfl
  | succ n ih =>
    rw [num_succ']
    simp only [le]
    rw [ih (v / 256) (by rw [Nat.pow_succ] at h; omega), UInt8.toNat_ofNat']
    omega
theorem rd_un {n : Nat} {s : RdSt} (h : (rdN n s).2 = false) : ∃ v b, s = (num v n ++ b, false) ∧ v < 256 ^ n ∧ rdV n s = v ∧ rdN n s = (b, false) := by
  obtain ⟨l, x⟩ := s
  have h' : rdS x l n = false := h
  unfold rdS at h'
  simp only [Bool.or_eq_false_iff, decide_eq_false_iff_not] at h'
  obtain ⟨rfl, hn⟩ := h'
  have hS : rdS false l n = false := h
  have hl : (l.take n).length = n := by simp; omega
  refine ⟨le (l.take n), l.drop n, ?_, ?_, ?_, ?_⟩
  · have := num_le (l.take n)
    rw [hl] at this
    rw [this, List.take_append_drop]
  · have := le_lt (l.take n)
    rwa [hl] at this
  · simp [rdV, rdT, hS]
  · simp [rdN, rdL, hS]
theorem rd_app {v n : Nat} (b : List UInt8) (h : v < 256 ^ n) : rdV n (num v n ++ b, false) = v ∧ rdN n (num v n ++ b, false) = (b, false) := by
  have hS : rdS false (num v n ++ b) n = false := by simp [rdS, num_len]
  constructor
  · simp only [rdV, rdT, hS, Bool.false_eq_true, if_false]
    rw [List.take_left' (num_len v n), le_num v n h]
  · simp only [rdN, rdL, hS, Bool.false_eq_true, if_false]
    rw [List.drop_left' (num_len v n)]
theorem rb_un {s : RdSt} (h : (rbN s).2 = false) : ∃ d b, s = (bytesF d ++ b, false) ∧ d.length ≤ 1000 ∧ rbV s = d ∧ rbN s = (b, false) := by
  have h1 : rdS (rdN 2 s).2 (rdN 2 s).1 (rdM s.2 s.1) = false := h
  have h2 : (rdN 2 s).2 = false := by
    unfold rdS at h1
    simp only [Bool.or_eq_false_iff] at h1
    exact h1.1
  obtain ⟨v, b, rfl, hv, hV, hN⟩ := rd_un h2
  have hM : rdM false (num v 2 ++ b) = if 1000 < v then b.length + 1 else v := by
    unfold rdM
    have e1 : le (rdT false (num v 2 ++ b) 2) = v := hV
    have e2 : rdL false (num v 2 ++ b) 2 = b := congrArg Prod.fst hN
    rw [e1, e2]
  rw [hN] at h1
  simp only [hM] at h1
  unfold rdS at h1
  simp only [Bool.false_or, decide_eq_false_iff_not] at h1
  by_cases hb : 1000 < v
  · rw [if_pos hb] at h1
    omega
  · rw [if_neg hb] at h1 hM
    have e1 : rdL false (num v 2 ++ b) 2 = b := congrArg Prod.fst hN
    have e2 : rdS false (num v 2 ++ b) 2 = false := congrArg Prod.snd hN
    have e3 : rdS false b v = false := by simp [rdS]; omega
    have hl : (b.take v).length = v := by simp; omega
    refine ⟨b.take v, b.drop v, ?_, by omega, ?_, ?_⟩
    · unfold bytesF
      rw [hl, List.append_assoc, List.take_append_drop]
    · simp only [rbV, rbT, hM, e1, e2, rdT, e3, Bool.false_eq_true, if_false]
    · simp only [rbN, rbL, rbS, hM, e1, e2]
      simp only [rdL, e3, Bool.false_eq_true, if_false]
theorem rb_app {d : List UInt8} (b : List UInt8) (h : d.length ≤ 1000) : rbV (bytesF d ++ b, false) = d ∧ rbN (bytesF d ++ b, false) = (b, false) := by
  obtain ⟨e1, e2⟩ := rd_app (v := d.length) (n := 2) (d ++ b) (by omega)
  have e0 : bytesF d ++ b = num d.length 2 ++ (d ++ b) := by unfold bytesF; rw [List.append_assoc]
  rw [e0]
  have hM : rdM false (num d.length 2 ++ (d ++ b)) = d.length := by
    unfold rdM
    have e1' : le (rdT false (num d.length 2 ++ (d ++ b)) 2) = d.length := e1
    rw [e1', if_neg (by omega)]
  have e3 : rdL false (num d.length 2 ++ (d ++ b)) 2 = d ++ b := congrArg Prod.fst e2
  have e4 : rdS false (num d.length 2 ++ (d ++ b)) 2 = false := congrArg Prod.snd e2
  have e5 : rdS false (d ++ b) d.length = false := by simp [rdS]
  constructor
  · simp only [rbV, rbT, hM, e3, e4, rdT, e5, Bool.false_eq_true, if_false]
    exact List.take_left' rfl
  · simp only [rbN, rbL, rbS, hM, e3, e4]
    simp only [rdL, e5, Bool.false_eq_true, if_false]
    rw [List.drop_left' rfl]
/-- an entry that may be read -/
def OkK (e : Key) : Prop := e.1 < 18446744073709551616 ∧ 0 ≤ e.2.1 ∧ e.2.1 < 256 ∧ e.2.2.length ≤ 1000
theorem p8 : (256 : Nat) ^ 8 = 18446744073709551616 := by decide
theorem ent_un {s : RdSt} (h : (entN s).2 = false) : ∃ e b, s = (encK e ++ b, false) ∧ OkK e ∧ entV s = e ∧ entN s = (b, false) := by
  obtain ⟨d, b, h1, h2, h3, h4⟩ := rb_un (s := rdN 1 (rdN 8 s)) h
  obtain ⟨k, b1, h5, h6, h7, h8⟩ := rd_un (n := 1) (s := rdN 8 s) (by rw [h1])
  obtain ⟨t, b2, h9, h10, h11, h12⟩ := rd_un (n := 8) (s := s) (by rw [h5])
  rw [h8] at h1
  injection h1 with h1 _
  rw [h12] at h5
  injection h5 with h5 _
  refine ⟨(t, (k : Int), d), b, ?_, ⟨by rw [p8] at h10; exact h10, (by show (0 : Int) ≤ (k : Int); omega), (by show (k : Int) < 256; omega), h2⟩, ?_, h4⟩
  · rw [h9, h5, h1]
    simp [encK, List.append_assoc]
  · unfold entV
    rw [h11, h7, h3]
theorem ent_app {e : Key} (b : List UInt8) (h : OkK e) : entV (encK e ++ b, false) = e ∧ entN (encK e ++ b, false) = (b, false) := by
  obtain ⟨t, k, d⟩ := e
  obtain ⟨h1, h2, h3, h4⟩ := h
  simp only at h1 h2 h3 h4
  obtain ⟨kk, rfl⟩ : ∃ kk : Nat, k = (kk : Int) := ⟨k.toNat, by omega⟩
  have e0 : encK (t, (kk : Int), d) ++ b = num t 8 ++ (num kk 1 ++ (bytesF d ++ b)) := by simp [encK, List.append_assoc]
  rw [e0]
  obtain ⟨a1, a2⟩ := rd_app (v := t) (n := 8) (num kk 1 ++ (bytesF d ++ b)) (by rw [p8]; exact h1)
  obtain ⟨a3, a4⟩ := rd_app (v := kk) (n := 1) (bytesF d ++ b) (by omega)
  obtain ⟨a5, a6⟩ := rb_app (d := d) b h4
  constructor
  · unfold entV
    rw [a1, a2, a3, a4, a5]
  · unfold entN
    rw [a2, a4, a6]
theorem dec_un (n : Nat) : ∀ {s : RdSt}, (decE n s).2.2 = false → ∃ es b, s = (encKs es ++ b, false) ∧ es.length = n ∧ (∀ e ∈ es, OkK e) ∧ decE n s = (es, (b, false)) := by
  induction n with
  | zero =>
    rintro ⟨l, x⟩ h
    have hx : x = false := h
    subst hx
    exact ⟨[], l, by simp [encKs], rfl, fun e he => (by cases he), rfl⟩
  | succ n ih =>
    intro s h
    cases hx : (entN s).2 with
    | true =>
      rw [decE_stop hx] at h
      rw [hx] at h
      cases h
    | false =>
      rw [decE_go hx] at h ⊢
      obtain ⟨e, b, h1, h2, h3, h4⟩ := ent_un hx
      obtain ⟨es, b', h5, h6, h7, h8⟩ := ih h
      rw [h4] at h5
      injection h5 with h5 _
      refine ⟨e :: es, b', ?_, by simp [h6], fun x hx => ?_, ?_⟩
      · rw [h1, h5]
        simp [encKs, List.append_assoc]
      · rcases List.mem_cons.1 hx with rfl | hx
        · exact h2
        · exact h7 x hx
      · rw [h3, h8]
theorem dec_app {es : List Key} (b : List UInt8) (h : ∀ e ∈ es, OkK e) : decE es.length (encKs es ++ b, false) = (es, (b, false)) := by
  induction es with
  | nil => simp [encKs, decE]
  | cons e es ih =>
    have e0 : encKs (e :: es) ++ b = encK e ++ (encKs es ++ b) := by simp [encKs, List.append_assoc]
    obtain ⟨h1, h2⟩ := ent_app (e := e) (encKs es ++ b) (h e (List.mem_cons_self ..))
    rw [List.length_cons, e0, decE_go (by rw [h2]), h1, h2, ih fun x hx => h x (List.mem_cons_of_mem _ hx)]
/-- what is read where nothing was missing: its bytes, and what is behind -/
def rawB (a0 a1 a2 fl te ix pr co n : Nat) (d : List UInt8) (es : List Key) (b : List UInt8) : List UInt8 :=
  num a0 1 ++ (num a1 1 ++ (num a2 1 ++ (num fl 1 ++ (num te 8 ++ (num ix 8 ++ (num pr 8 ++ (num co 8 ++ (bytesF d ++ (num n 1 ++ (encKs es ++ b))))))))))
theorem raw_un {l : List UInt8} (h : (entsV l).2.2 = false) : ∃ a0 a1 a2 fl te ix pr co d es b, l = rawB a0 a1 a2 fl te ix pr co es.length d es b ∧ (a0 < 256 ∧ a1 < 256 ∧ a2 < 256 ∧ fl < 256 ∧ es.length < 256) ∧
    (te < 18446744073709551616 ∧ ix < 18446744073709551616 ∧ pr < 18446744073709551616 ∧ co < 18446744073709551616) ∧ d.length ≤ 1000 ∧ (∀ e ∈ es, OkK e) ∧
    decP l = ⟨(a0 : Int), (a1 : Int), (a2 : Int), te, ix, pr, co, ((fl : Nat) : Int) == 1, d, es⟩ ∧ flagV l = fl ∧ entsV l = (es, (b, false)) := by
  unfold entsV at h
  obtain ⟨es, b, h1, h2, h3, h4⟩ := dec_un _ h
  obtain ⟨n, b9, g9, v9, e9, s9⟩ := rd_un (n := 1) (s := st9 l) (by rw [h1])
  obtain ⟨d, b8, g8, v8, e8, s8⟩ := rb_un (s := st8 l) (by show (st9 l).2 = false; rw [g9])
  obtain ⟨co, b7, g7, v7, e7, s7⟩ := rd_un (n := 8) (s := rdN 8 (rdN 8 (rdN 8 (st4 l)))) (by show (st8 l).2 = false; rw [g8])
  obtain ⟨pr, b6, g6, v6, e6, s6⟩ := rd_un (n := 8) (s := rdN 8 (rdN 8 (st4 l))) (by rw [g7])
  obtain ⟨ix, b5, g5, v5, e5, s5⟩ := rd_un (n := 8) (s := rdN 8 (st4 l)) (by rw [g6])
  obtain ⟨te, b4, g4, v4, e4, s4⟩ := rd_un (n := 8) (s := st4 l) (by rw [g5])
  obtain ⟨fl, b3, g3, v3, e3, s3⟩ := rd_un (n := 1) (s := rdN 1 (rdN 1 (rdN 1 (l, false)))) (by show (st4 l).2 = false; rw [g4])
  obtain ⟨a2, b2, g2, v2, e2, s2⟩ := rd_un (n := 1) (s := rdN 1 (rdN 1 (l, false))) (by rw [g3])
  obtain ⟨a1, b1, g1, v1, e1, s1⟩ := rd_un (n := 1) (s := rdN 1 (l, false)) (by rw [g2])
  obtain ⟨a0, b0, g0, v0, e0, s0⟩ := rd_un (n := 1) (s := (l, false)) (by rw [g1])
  rw [s0] at g1; injection g1 with g1 _
  rw [s1] at g2; injection g2 with g2 _
  rw [s2] at g3; injection g3 with g3 _
  have s3' : st4 l = (b3, false) := s3
  rw [s3'] at g4; injection g4 with g4 _
  rw [s4] at g5; injection g5 with g5 _
  rw [s5] at g6; injection g6 with g6 _
  rw [s6] at g7; injection g7 with g7 _
  have s7' : st8 l = (b7, false) := s7
  rw [s7'] at g8; injection g8 with g8 _
  have s8' : st9 l = (b8, false) := s8
  rw [s8'] at g9; injection g9 with g9 _
  rw [s9] at h1; injection h1 with h1 _
  injection g0 with g0 _
  have hn : es.length = n := by rw [h2, e9]
  rw [p8] at v4 v5 v6 v7
  refine ⟨a0, a1, a2, fl, te, ix, pr, co, d, es, b, ?_, ⟨by omega, by omega, by omega, by omega, by omega⟩, ⟨v4, v5, v6, v7⟩, v8, h3, ?_, ?_, ?_⟩
  · rw [hn, g0, g1, g2, g3, g4, g5, g6, g7, g8, g9, h1]
    rfl
  · unfold decP flagV entsV
    rw [e0, e1, e2, e3, e4, e5, e6, e7, e8, h4]
  · exact e3
  · exact h4
theorem raw_app {a0 a1 a2 fl te ix pr co : Nat} {d : List UInt8} {es : List Key} {b : List UInt8} (h : a0 < 256 ∧ a1 < 256 ∧ a2 < 256 ∧ fl < 256 ∧ es.length < 256)
    (h8 : te < 18446744073709551616 ∧ ix < 18446744073709551616 ∧ pr < 18446744073709551616 ∧ co < 18446744073709551616) (hd : d.length ≤ 1000) (he : ∀ e ∈ es, OkK e) :
    decP (rawB a0 a1 a2 fl te ix pr co es.length d es b) = ⟨(a0 : Int), (a1 : Int), (a2 : Int), te, ix, pr, co, ((fl : Nat) : Int) == 1, d, es⟩ ∧ flagV (rawB a0 a1 a2 fl te ix pr co es.length d es b) = fl ∧ entsV (rawB a0 a1 a2 fl te ix pr co es.length d es b) = (es, (b, false)) := by
  obtain ⟨h0, h1, h2, h3, h4⟩ := h
  rw [← p8] at h8
  obtain ⟨k1, k2, k3, k4⟩ := h8
  have q0 := fun b => rd_app (v := a0) (n := 1) b (by omega)
  have q1 := fun b => rd_app (v := a1) (n := 1) b (by omega)
  have q2 := fun b => rd_app (v := a2) (n := 1) b (by omega)
  have q3 := fun b => rd_app (v := fl) (n := 1) b (by omega)
  have q4 := fun b => rd_app (v := te) (n := 8) b k1
  have q5 := fun b => rd_app (v := ix) (n := 8) b k2
  have q6 := fun b => rd_app (v := pr) (n := 8) b k3
  have q7 := fun b => rd_app (v := co) (n := 8) b k4
  have q8 := fun b => rb_app (d := d) b hd
  have q9 := fun b => rd_app (v := es.length) (n := 1) b (by omega)
  have q10 := dec_app (es := es) b he
  unfold decP flagV entsV st9 st8 st4 rawB
  simp only [(q0 _).1, (q0 _).2, (q1 _).1, (q1 _).2, (q2 _).1, (q2 _).2, (q3 _).1, (q3 _).2, (q4 _).1, (q4 _).2, (q5 _).1, (q5 _).2, (q6 _).1, (q6 _).2, (q7 _).1, (q7 _).2, (q8 _).1, (q8 _).2, (q9 _).1, (q9 _).2, q10, and_self]
end Go.Proofs.YtciolppoanfiaaaDoor

namespace Go.Proofs.YtciolppoanfiaaaDoor

theorem rawB_nil (a0 a1 a2 fl te ix pr co n : Nat) (d : List UInt8) (es : List Key) : rawB a0 a1 a2 fl te ix pr co n d es [] = nums [a0, a1, a2, fl] 1 ++ (nums [te, ix, pr, co] 8 ++ (bytesF d ++ (num n 1 ++ encKs es))) := by
  simp [rawB, nums, List.append_assoc]
theorem rawB_app (a0 a1 a2 fl te ix pr co n : Nat) (d : List UInt8) (es : List Key) (b c : List UInt8) : rawB a0 a1 a2 fl te ix pr co n d es b ++ c = rawB a0 a1 a2 fl te ix pr co n d es (b ++ c) := by
  simp [rawB, List.append_assoc]
theorem decC_un {l : List UInt8} (h : decC l = 0) : (entsV l).2.2 = false ∧ (entsV l).2.1 = [] ∧ flagV l ≤ 1 ∧ (decP l).check = 0 := by
  unfold decC at h
  by_cases h1 : endE (entsV l).2.2 (entsV l).2.1 = 0
  · rw [if_neg (by omega)] at h
    by_cases h2 : 1 < flagV l
    · rw [if_pos h2] at h; cases h
    · rw [if_neg h2] at h
      refine ⟨?_, ?_, by omega, h⟩
      · cases hx : (entsV l).2.2 with
        | false => rfl
        | true => rw [hx] at h1; simp [endE] at h1
      · unfold endE at h1
        split at h1
        · cases h1
        · split at h1
          · cases h1
          · exact List.eq_nil_of_length_eq_zero (by omega)
  · rw [if_pos h1] at h
    exact absurd h h1
/-- what is read is written -/
theorem read_written {l : List UInt8} (h : decC l = 0) : (decP l).enc = l ∧ (decP l).check = 0 := by
  obtain ⟨h1, h2, h3, h4⟩ := decC_un h
  obtain ⟨a0, a1, a2, fl, te, ix, pr, co, d, es, b, e1, _, _, _, _, e2, e3, e4⟩ := raw_un h1
  refine ⟨?_, h4⟩
  rw [e4] at h2
  have hb : b = [] := h2
  subst hb
  rw [e3] at h3
  rw [e2, e1, rawB_nil]
  have hfl : (((fl : Nat) : Int) == 1).toNat = fl := by
    rcases Nat.le_one_iff_eq_zero_or_eq_one.1 h3 with rfl | rfl <;> rfl
  simp only [PMsg.enc, Int.toNat_natCast, hfl]
/-- cut short it is none -/
theorem cut_short {l : List UInt8} (h : decC l = 0) {k : Nat} (hk : k < l.length) : decC (l.take k) = 10 := by
  obtain ⟨h1, h2, _, _⟩ := decC_un h
  have hs : (entsV (l.take k)).2.2 = true := by
    cases hx : (entsV (l.take k)).2.2 with
    | true => rfl
    | false =>
      obtain ⟨a0, a1, a2, fl, te, ix, pr, co, d, es, b, e1, q1, q2, q3, q4, _, _, _⟩ := raw_un hx
      have hl : l = rawB a0 a1 a2 fl te ix pr co es.length d es (b ++ l.drop k) := by
        rw [← rawB_app, ← e1, List.take_append_drop]
      obtain ⟨_, _, e4⟩ := raw_app (b := b ++ l.drop k) q1 q2 q3 q4
      rw [← hl] at e4
      rw [e4] at h2
      have h2' : b ++ l.drop k = [] := h2
      have := congrArg List.length h2'
      simp at this
      omega
  unfold decC
  rw [hs]
  simp [endE]
/-- the bounds of a message that is right, its numbers of 64 bits -/
def PMsg.fits (p : PMsg) : Prop := (p.te < 18446744073709551616 ∧ p.ix < 18446744073709551616 ∧ p.pr < 18446744073709551616 ∧ p.co < 18446744073709551616) ∧ ∀ e ∈ p.es, e.1 < 18446744073709551616
theorem check_of {p : PMsg} (h : p.check = 0) : (1 ≤ p.k ∧ p.k ≤ 12) ∧ (0 ≤ p.f ∧ p.f ≤ 15) ∧ (0 ≤ p.t ∧ p.t ≤ 15) ∧ p.d.length ≤ 700 ∧ p.es.length ≤ 8 ∧ ∀ e ∈ p.es, e.2.2.length ≤ 24 ∧ 0 ≤ e.2.1 ∧ e.2.1 ≤ 255 := by
  unfold PMsg.check checkK at h
  split at h
  · cases h
  · split at h
    · cases h
    · split at h
      · cases h
      · split at h
        · cases h
        · next a b c d =>
          refine ⟨by omega, by omega, by omega, by omega, by omega, fun e he => ?_⟩
          have h1 : e.2.2.length ≤ 24 := by
            refine Decidable.byContradiction fun hn => c (.inr (.inr (List.any_eq_true.2 ⟨e, he, ?_⟩)))
            simp only [longK, decide_eq_true_eq]
            omega
          have h2 : 0 ≤ e.2.1 ∧ e.2.1 ≤ 255 := by
            refine Decidable.byContradiction fun hn => d (List.any_eq_true.2 ⟨e, he, ?_⟩)
            simp only [strangeK, decide_eq_true_eq]
            omega
          exact ⟨h1, h2⟩
/-- what is written is read -/
theorem written_read {p : PMsg} (h : p.check = 0) (hf : p.fits) : decP p.enc = p := by
  obtain ⟨⟨k1, k2⟩, ⟨f1, f2⟩, ⟨t1, t2⟩, hd, hn, he⟩ := check_of h
  obtain ⟨h8, h9⟩ := hf
  obtain ⟨k, f, t, te, ix, pr, co, ok, d, es⟩ := p
  simp only at k1 k2 f1 f2 t1 t2 hd hn he h8 h9
  obtain ⟨kn, rfl⟩ : ∃ n : Nat, k = (n : Int) := ⟨k.toNat, by omega⟩
  obtain ⟨fn, rfl⟩ : ∃ n : Nat, f = (n : Int) := ⟨f.toNat, by omega⟩
  obtain ⟨tn, rfl⟩ : ∃ n : Nat, t = (n : Int) := ⟨t.toNat, by omega⟩
  have hb := ok.toNat_le
  obtain ⟨e1, _, _⟩ := raw_app (a0 := kn) (a1 := fn) (a2 := tn) (fl := ok.toNat) (b := []) (es := es) (d := d) ⟨by omega, by omega, by omega, by omega, by omega⟩ h8 (by omega) (fun e hm => ⟨h9 e hm, (he e hm).2.1, by have := (he e hm).2.2; omega, by have := (he e hm).1; omega⟩)
  rw [rawB_nil] at e1
  unfold PMsg.enc
  simp only [Int.toNat_natCast]
  rw [e1]
  cases ok <;> rfl
theorem enc_inj {p q : PMsg} (hp : p.check = 0) (hq : q.check = 0) (fp : p.fits) (fq : q.fits) (h : p.enc = q.enc) : p = q := by
  rw [← written_read hp fp, ← written_read hq fq, h]
end Go.Proofs.YtciolppoanfiaaaDoor
