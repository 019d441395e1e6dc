/-! CRC: the table form and the bit form are one; the sum is affine. -/
namespace Go.Proofs.YtciolppoanfiaaaDoor.Crc
def poly : Nat := 3988292384
def stp (s : Nat) : Nat := (s >>> 1) ^^^ (if s % 2 = 1 then poly else 0)
def stpN : Nat → Nat → Nat
  | 0, s => s
  | n + 1, s => stpN n (stp s)
def table : List Nat := [0, 498536548, 997073096, 651767980, 1994146192, 1802195444, 1303535960, 1342533948, 3988292384, 4027552580, 3604390888, 3412177804, 2607071920, 2262029012, 2685067896, 3183342108]
def nib (s : Nat) : Nat := (s >>> 4) ^^^ table.getD (s &&& 15) 0
def tabByte (s c : Nat) : Nat := nib (nib (s ^^^ c))
def refBit (s bit : Nat) : Nat := if (s &&& 1) ^^^ bit = 1 then (s / 2) ^^^ poly else s / 2
def refBits (c : Nat) : Nat → Nat → Nat
  | 0, s => s
  | n + 1, s => refBit (refBits c n s) ((c >>> n) &&& 1)
def byte (s c : Nat) : Nat := stpN 8 (s ^^^ c)

theorem stp_xor (a b : Nat) : stp (a ^^^ b) = stp a ^^^ stp b := by
  unfold stp
  have hm : (a ^^^ b) % 2 = (a % 2 + b % 2) % 2 := by
    have := Nat.testBit_xor a b 0
    simp only [Nat.testBit_zero] at this
    rcases Nat.mod_two_eq_zero_or_one a with h | h <;> rcases Nat.mod_two_eq_zero_or_one b with h' | h' <;>
      rcases Nat.mod_two_eq_zero_or_one (a ^^^ b) with h'' | h'' <;> simp [h, h', h''] at this ⊢
  rw [Nat.shiftRight_xor_distrib, hm]
  rcases Nat.mod_two_eq_zero_or_one a with h | h <;> rcases Nat.mod_two_eq_zero_or_one b with h' | h' <;> simp only [h, h']
  · simp
  · simp [Nat.xor_assoc]
  · simp only [↓reduceIte, Nat.zero_ne_one, Nat.xor_zero]
    rw [Nat.xor_assoc, Nat.xor_comm (b >>> 1), Nat.xor_assoc]
  · simp only [Nat.reduceAdd, Nat.reduceMod, ↓reduceIte, Nat.zero_ne_one, Nat.xor_zero]
    rw [Nat.xor_assoc, Nat.xor_comm (b >>> 1), ← Nat.xor_assoc poly, Nat.xor_self, Nat.zero_xor]
theorem stpN_xor (n a b : Nat) : stpN n (a ^^^ b) = stpN n a ^^^ stpN n b := by
  induction n generalizing a b with
  | zero => rfl
  | succ n ih => simp only [stpN]; rw [stp_xor, ih]
theorem stp_lt {s : Nat} (h : s < 4294967296) : stp s < 4294967296 := by
  unfold stp
  have h1 : s >>> 1 < 2 ^ 32 := by rw [Nat.shiftRight_eq_div_pow]; omega
  have h2 : (if s % 2 = 1 then poly else 0) < 2 ^ 32 := by unfold poly; split <;> omega
  have := Nat.xor_lt_two_pow h1 h2
  omega
theorem stpN_lt (n : Nat) {s : Nat} (h : s < 4294967296) : stpN n s < 4294967296 := by
  induction n generalizing s with
  | zero => exact h
  | succ n ih => exact ih (stp_lt h)
theorem byte_lt {s c : Nat} (h : s < 4294967296) (hc : c < 256) : byte s c < 4294967296 :=
  stpN_lt 8 (by have := Nat.xor_lt_two_pow (n := 32) (x := s) (y := c) (by omega) (by omega); omega)

theorem hi4 (x : Nat) : stpN 4 (x <<< 4) = x := by
  have h1 : ∀ y : Nat, stp (y <<< 1) = y := by
    intro y
    unfold stp
    rw [Nat.shiftLeft_eq, Nat.shiftRight_eq_div_pow]
    have : y * 2 ^ 1 % 2 = 0 := by omega
    simp [this]
  have e : x <<< 4 = (((x <<< 1) <<< 1) <<< 1) <<< 1 := by simp only [Nat.shiftLeft_eq]; omega
  rw [e]
  simp only [stpN, h1]
theorem split4 (s : Nat) : s = ((s >>> 4) <<< 4) ^^^ (s &&& 15) := by
  apply Nat.eq_of_testBit_eq
  intro i
  rw [Nat.testBit_xor, Nat.testBit_shiftLeft, Nat.testBit_and, Nat.testBit_shiftRight]
  have h15 : Nat.testBit 15 i = decide (i < 4) := by
    have := Nat.testBit_two_pow_sub_one 4 i
    simpa using this
  rw [h15]
  by_cases h : i < 4
  · have : ¬ i ≥ 4 := by omega
    simp [h, this]
  · have h' : i ≥ 4 := by omega
    have e : 4 + (i - 4) = i := by omega
    simp [h, h', e]
theorem low4 : ∀ i, i < 16 → stpN 4 i = table.getD i 0 := by decide
theorem nib_eq (s : Nat) : nib s = stpN 4 s := by
  have h15 : s &&& 15 < 16 := by
    have := Nat.and_lt_two_pow s (show 15 < 2 ^ 4 by decide)
    omega
  conv => rhs; rw [split4 s]
  rw [stpN_xor, hi4, low4 _ h15]
  rfl
theorem stpN_add (m n s : Nat) : stpN m (stpN n s) = stpN (n + m) s := by
  induction n generalizing s with
  | zero => simp [stpN]
  | succ n ih => rw [show n + 1 + m = (n + m) + 1 by omega]; simp only [stpN]; rw [ih]
theorem tabByte_eq (s c : Nat) : tabByte s c = byte s c := by
  unfold tabByte byte
  rw [nib_eq, nib_eq, stpN_add]

theorem refBit_eq (s bit : Nat) (hb : bit ≤ 1) : refBit s bit = stp (s ^^^ bit) := by
  rw [stp_xor]
  have hs : stp bit = if bit = 1 then poly else 0 := by
    have : bit = 0 ∨ bit = 1 := by omega
    rcases this with rfl | rfl <;> decide
  rw [hs]
  unfold refBit stp
  rw [Nat.and_one_is_mod, Nat.shiftRight_eq_div_pow]
  have : bit = 0 ∨ bit = 1 := by omega
  rcases this with rfl | rfl <;> rcases Nat.mod_two_eq_zero_or_one s with h | h <;> simp [h, Nat.xor_assoc]
theorem stpN_succ (n s : Nat) : stpN (n + 1) s = stp (stpN n s) := by
  have := stpN_add 1 n s
  simpa [stpN] using this.symm
theorem shiftUp (n b : Nat) : stpN n (b <<< n) = b := by
  induction n generalizing b with
  | zero => simp [stpN]
  | succ n ih =>
    have e : b <<< (n + 1) = (b <<< n) * 2 := by simp only [Nat.shiftLeft_eq, Nat.pow_succ]; rw [Nat.mul_assoc]
    have h1 : stp (b <<< n * 2) = b <<< n := by
      unfold stp
      rw [Nat.shiftRight_eq_div_pow]
      have : b <<< n * 2 % 2 = 0 := by omega
      simp [this]
    simp only [stpN]
    rw [e, h1, ih]
theorem mod_succ_xor (c n : Nat) : c % 2 ^ (n + 1) = (c % 2 ^ n) ^^^ (((c >>> n) &&& 1) <<< n) := by
  apply Nat.eq_of_testBit_eq
  intro i
  rw [Nat.testBit_xor, Nat.testBit_shiftLeft, Nat.testBit_mod_two_pow, Nat.testBit_mod_two_pow, Nat.testBit_and, Nat.testBit_shiftRight]
  have h1 : Nat.testBit 1 (i - n) = decide (i - n = 0) := by
    have := Nat.testBit_two_pow_sub_one 1 (i - n)
    simp at this
    rw [this]
  rw [h1]
  by_cases h : i < n
  · have a : i < n + 1 := by omega
    have b : ¬ i ≥ n := by omega
    simp [h, a, b]
  · by_cases h' : i = n
    · subst h'; simp
    · have a : ¬ i < n + 1 := by omega
      have b : ¬ i - n = 0 := by omega
      simp [h, a, b]
theorem refBits_eq (c n s : Nat) : refBits c n s = stpN n (s ^^^ (c % 2 ^ n)) := by
  induction n generalizing s with
  | zero => simp [refBits, stpN, Nat.mod_one]
  | succ n ih =>
    have hb : (c >>> n) &&& 1 ≤ 1 := Nat.and_le_right
    simp only [refBits]
    rw [refBit_eq _ _ hb, ih, stpN_succ, mod_succ_xor, ← Nat.xor_assoc, stpN_xor n (s ^^^ c % 2 ^ n), shiftUp]
theorem refBits8 (c s : Nat) (h : c < 256) : refBits c 8 s = byte s c := by
  rw [refBits_eq, Nat.mod_eq_of_lt (by simpa using h)]
  rfl

def run (s : Nat) (l : List UInt8) : Nat := l.foldl (fun s c => byte s c.toNat) s
def sum (l : List UInt8) : Nat := 4294967295 - run 4294967295 l
theorem run_nil (s : Nat) : run s [] = s := rfl
theorem run_snoc (s : Nat) (l : List UInt8) (c : UInt8) : run s (l ++ [c]) = byte (run s l) c.toNat := by simp [run]
theorem run_cons (s : Nat) (l : List UInt8) (c : UInt8) : run s (c :: l) = run (byte s c.toNat) l := rfl
theorem run_append (s : Nat) (l m : List UInt8) : run s (l ++ m) = run (run s l) m := by simp [run]
theorem run_lt (l : List UInt8) : ∀ {s : Nat}, s < 4294967296 → run s l < 4294967296 := by
  induction l with
  | nil => intro s h; exact h
  | cons c l ih => intro s h; exact ih (byte_lt h c.toNat_lt)
theorem sum_lt (l : List UInt8) : sum l < 4294967296 := by unfold sum; omega
theorem byte_xor (s t c d : Nat) : byte (s ^^^ t) (c ^^^ d) = byte s c ^^^ byte t d := by
  unfold byte
  rw [← stpN_xor]
  congr 1
  rw [Nat.xor_assoc, ← Nat.xor_assoc t, Nat.xor_comm t c, Nat.xor_assoc c, ← Nat.xor_assoc]
theorem run_xor : ∀ (l m : List UInt8) (s t : Nat), l.length = m.length → run (s ^^^ t) (List.zipWith (· ^^^ ·) l m) = run s l ^^^ run t m
  | [], [], s, t, _ => rfl
  | c :: l, d :: m, s, t, h => by
    simp only [List.zipWith_cons_cons, run_cons, UInt8.toNat_xor, byte_xor]
    exact run_xor l m _ _ (by simpa using h)
theorem not32 (x : Nat) (h : x < 4294967296) : 4294967295 - x = 4294967295 ^^^ x := by
  apply Nat.eq_of_testBit_eq
  intro i
  rw [Nat.testBit_xor]
  have e : 4294967295 - x = 2 ^ 32 - (x + 1) := by omega
  have o := Nat.testBit_two_pow_sub_one 32 i
  simp at o
  rw [e, Nat.testBit_two_pow_sub_succ (by omega), o]
  by_cases hi : i < 32
  · simp [hi]
  · have : x.testBit i = false := Nat.testBit_lt_two_pow (Nat.lt_of_lt_of_le h (by
      have : 2 ^ 32 ≤ 2 ^ i := Nat.pow_le_pow_right (by decide) (by omega)
      omega))
    simp [hi, this]
theorem mixed (a b c : List UInt8) (h1 : a.length = b.length) (h2 : a.length = c.length) :
    sum a ^^^ sum b ^^^ sum c ^^^ sum (List.zipWith (· ^^^ ·) (List.zipWith (· ^^^ ·) a b) c) = 0 := by
  have F : ∀ l, sum l = 4294967295 ^^^ run 4294967295 l := fun l => not32 _ (run_lt l (by decide))
  have e : run 4294967295 (List.zipWith (· ^^^ ·) (List.zipWith (· ^^^ ·) a b) c) = run 4294967295 a ^^^ run 4294967295 b ^^^ run 4294967295 c := by
    have k := run_xor (List.zipWith (· ^^^ ·) a b) c (4294967295 ^^^ 4294967295) 4294967295 (by simp [← h1, h2])
    rw [run_xor a b _ _ h1, Nat.xor_self, Nat.zero_xor] at k
    exact k
  rw [F, F, F, F, e]
  generalize run 4294967295 a = x
  generalize run 4294967295 b = y
  generalize run 4294967295 c = z
  apply Nat.eq_of_testBit_eq
  intro i
  simp only [Nat.testBit_xor, Nat.zero_testBit]
  generalize Nat.testBit 4294967295 i = p
  generalize x.testBit i = q
  generalize y.testBit i = r
  generalize z.testBit i = t
  cases p <;> cases q <;> cases r <;> cases t <;> rfl
end Go.Proofs.YtciolppoanfiaaaDoor.Crc
