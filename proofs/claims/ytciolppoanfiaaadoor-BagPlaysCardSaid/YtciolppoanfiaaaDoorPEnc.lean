/- What is written of a message: plain. -/
import Derived.Test.YtciolppoanfiaaaDoorXWnum
namespace Go.Proofs.YtciolppoanfiaaaDoor

/-- some numbers, each in so many bytes -/
def nums (ns : List Nat) (size : Nat) : List UInt8 := (ns.map fun n => num n size).flatten
theorem nums_len (ns : List Nat) (size : Nat) : (nums ns size).length = ns.length * size := by
  induction ns with
  | nil => simp [nums]
  | cons n ns ih =>
    have : nums (n :: ns) size = num n size ++ nums ns size := by simp [nums]
    rw [this, List.length_append, num_len, ih, List.length_cons, Nat.succ_mul]
    omega
theorem nums_snoc (ns : List Nat) (size k n : Nat) (h : ns[k]? = some n) : nums (ns.take (k + 1)) size = nums (ns.take k) size ++ num n size := by
  obtain ⟨h1, h2⟩ := List.getElem?_eq_some_iff.1 h
  unfold nums
  rw [List.take_succ_eq_append_getElem h1, List.map_append, List.flatten_append, h2]
  simp
def encK (e : Key) : List UInt8 := num e.1 8 ++ (num e.2.1.toNat 1 ++ bytesF e.2.2)
theorem encK_len (e : Key) : (encK e).length = e.2.2.length + 11 := by simp [encK, num_len, bytesF_len]; omega
def encKs (es : List Key) : List UInt8 := (es.map encK).flatten
theorem encKs_snoc (es : List Key) (k : Nat) (e : Key) (h : es[k]? = some e) : encKs (es.take (k + 1)) = encKs (es.take k) ++ encK e := by
  obtain ⟨h1, h2⟩ := List.getElem?_eq_some_iff.1 h
  unfold encKs
  rw [List.take_succ_eq_append_getElem h1, List.map_append, List.flatten_append, h2]
  simp
/-- the bytes of a message -/
def PMsg.enc (p : PMsg) : List UInt8 :=
  nums [p.k.toNat, p.f.toNat, p.t.toNat, p.ok.toNat] 1 ++ (nums [p.te, p.ix, p.pr, p.co] 8 ++ (bytesF p.d ++ (num p.es.length 1 ++ encKs p.es)))
theorem encKs_len {es : List Key} (h : ∀ e ∈ es, e.2.2.length ≤ 24) : (encKs es).length ≤ es.length * 35 := by
  induction es with
  | nil => simp [encKs]
  | cons e es ih =>
    have : encKs (e :: es) = encK e ++ encKs es := by simp [encKs]
    rw [this, List.length_append, encK_len, List.length_cons, Nat.succ_mul]
    have h1 := h e (List.mem_cons_self ..)
    have h2 := ih fun x hx => h x (List.mem_cons_of_mem _ hx)
    omega
/-- what a message that is right has -/
structure RightM (k f t : Int) (dn : Nat) (es : List Ent) : Prop where
  k1 : 1 ≤ k
  k2 : k ≤ 12
  f1 : 0 ≤ f
  f2 : f ≤ 15
  t1 : 0 ≤ t
  t2 : t ≤ 15
  d : dn ≤ 700
  n : es.length ≤ 8
  l : ∀ e ∈ es, e.l.length ≤ 24
  e1 : ∀ e ∈ es, 0 ≤ e.k
  e2 : ∀ e ∈ es, e.k ≤ 255
theorem right_of {k f t : Int} {dn : Nat} {es : List Ent} (h : checkF k f t dn es = 0) : RightM k f t dn es := by
  unfold checkF at h
  split at h
  · cases h
  · split at h
    · cases h
    · split at h
      · cases h
      · split at h
        · cases h
        · next a b c d =>
          have hl : ∀ e ∈ es, e.l.length ≤ 24 := fun e he => by
            refine Decidable.byContradiction fun hn => c (.inr (.inr (List.any_eq_true.2 ⟨e, he, ?_⟩)))
            simp only [longE, decide_eq_true_eq]
            omega
          have hk : ∀ e ∈ es, 0 ≤ e.k ∧ e.k ≤ 255 := fun e he => by
            refine Decidable.byContradiction fun hn => d (List.any_eq_true.2 ⟨e, he, ?_⟩)
            simp only [strangeE, decide_eq_true_eq]
            omega
          exact ⟨by omega, by omega, by omega, by omega, by omega, by omega, by omega, by omega, hl, fun e he => (hk e he).1, fun e he => (hk e he).2⟩
end Go.Proofs.YtciolppoanfiaaaDoor
