/- Plain laws about labels of 256 bits: their bits, what two have in common, their order, prefixes. No program in sight. -/
import Derived.Lib.Bytealg
namespace Go.Proofs.Ytgjmnhbkdccgpaa
namespace B

/-- Bit i of a label. -/
def bit (l : List UInt8) (i : Nat) : Bool := (l.getD (i / 8) 0).toNat.testBit (7 - i % 8)

def cmnF (a b : List UInt8) : Nat → Nat → Nat
  | 0, n => n
  | k + 1, n => if bit a n = bit b n then cmnF a b k (n + 1) else n
/-- How many bits two labels have in common. -/
def cmn (a b : List UInt8) : Nat := cmnF a b 256 0

theorem cmnF_spec (a b : List UInt8) : ∀ k n, n ≤ cmnF a b k n ∧ cmnF a b k n ≤ n + k ∧ (∀ i, n ≤ i → i < cmnF a b k n → bit a i = bit b i) ∧ (cmnF a b k n < n + k → bit a (cmnF a b k n) ≠ bit b (cmnF a b k n)) := by
  intro k
  induction k with
  | zero => intro n; simp [cmnF]; omega
  | succ k ih =>
    intro n
    by_cases h : bit a n = bit b n
    · have e : cmnF a b (k + 1) n = cmnF a b k (n + 1) := by simp [cmnF, h]
      rw [e]
      obtain ⟨h1, h2, h3, h4⟩ := ih (n + 1)
      refine ⟨by omega, by omega, fun i hi hj => ?_, fun hl => h4 (by omega)⟩
      by_cases hn : i = n
      · subst hn; exact h
      · exact h3 i (by omega) hj
    · have e : cmnF a b (k + 1) n = n := by simp [cmnF, h]
      rw [e]
      exact ⟨by omega, by omega, fun i hi hj => by omega, fun _ => h⟩

theorem cmn_le (a b : List UInt8) : cmn a b ≤ 256 := by have := (cmnF_spec a b 256 0).2.1; unfold cmn; omega
theorem cmn_same (a b : List UInt8) {i : Nat} (h : i < cmn a b) : bit a i = bit b i := (cmnF_spec a b 256 0).2.2.1 i (Nat.zero_le _) h
theorem cmn_ne (a b : List UInt8) (h : cmn a b < 256) : bit a (cmn a b) ≠ bit b (cmn a b) := (cmnF_spec a b 256 0).2.2.2 (by unfold cmn at h; simpa using h)
theorem cmn_eq {a b : List UInt8} {n : Nat} (h1 : n ≤ 256) (h2 : ∀ i, i < n → bit a i = bit b i) (h3 : n < 256 → bit a n ≠ bit b n) : cmn a b = n := by
  rcases Nat.lt_trichotomy (cmn a b) n with h | h | h
  · exact absurd (h2 _ h) (cmn_ne a b (by omega))
  · exact h
  · exact absurd (cmn_same a b h) (h3 (by have := cmn_le a b; omega))
theorem cmn_ge {a b : List UInt8} {n : Nat} (h1 : n ≤ 256) (h2 : ∀ i, i < n → bit a i = bit b i) : n ≤ cmn a b := by
  rcases Nat.lt_or_ge (cmn a b) n with h | h
  · exact absurd (h2 _ h) (cmn_ne a b (by omega))
  · exact h
theorem cmn_symm (a b : List UInt8) : cmn a b = cmn b a :=
  cmn_eq (cmn_le b a) (fun _ h => (cmn_same b a h).symm) (fun h => (cmn_ne b a h).symm)
theorem cmn_self (a : List UInt8) : cmn a a = 256 := cmn_eq (Nat.le_refl _) (fun _ _ => rfl) (fun h => by omega)

/-- Two bytes whose bits are alike are alike. -/
theorem byte_ext {x y : UInt8} (h : ∀ k, k < 8 → x.toNat.testBit k = y.toNat.testBit k) : x = y := by
  apply UInt8.toNat_inj.1
  apply Nat.eq_of_testBit_eq
  intro i
  by_cases hi : i < 8
  · exact h i hi
  · have hx : x.toNat < 2 ^ i := Nat.lt_of_lt_of_le x.toNat_lt (Nat.pow_le_pow_right (by omega) (by omega))
    have hy : y.toNat < 2 ^ i := Nat.lt_of_lt_of_le y.toNat_lt (Nat.pow_le_pow_right (by omega) (by omega))
    rw [Nat.testBit_lt_two_pow hx, Nat.testBit_lt_two_pow hy]

theorem bit_at (l : List UInt8) (j k : Nat) (hk : k < 8) : bit l (8 * j + k) = (l.getD j 0).toNat.testBit (7 - k) := by
  unfold bit
  rw [show (8 * j + k) / 8 = j from by omega, show (8 * j + k) % 8 = k from by omega]

theorem byte_of_bits {a b : List UInt8} {j : Nat} (h : ∀ k, k < 8 → bit a (8 * j + k) = bit b (8 * j + k)) : a.getD j 0 = b.getD j 0 := by
  apply byte_ext
  intro k hk
  have := h (7 - k) (by omega)
  rw [bit_at _ _ _ (by omega), bit_at _ _ _ (by omega), show 7 - (7 - k) = k from by omega] at this
  exact this

theorem lab_ext {a b : List UInt8} (ha : a.length = 32) (hb : b.length = 32) (h : ∀ i, i < 256 → bit a i = bit b i) : a = b := by
  apply List.ext_getElem (by omega)
  intro j h1 h2
  have := byte_of_bits (a := a) (b := b) (j := j) (fun k hk => h _ (by omega))
  rwa [List.getD_eq_getElem?_getD, List.getD_eq_getElem?_getD, List.getElem?_eq_getElem h1, List.getElem?_eq_getElem h2] at this

theorem cmn_all {a b : List UInt8} (ha : a.length = 32) (hb : b.length = 32) : cmn a b = 256 ↔ a = b := by
  constructor
  · intro h; exact lab_ext ha hb fun i hi => cmn_same a b (by omega)
  · rintro rfl; exact cmn_self a

theorem bit_beyond (l : List UInt8) (hl : l.length = 32) {i : Nat} (hi : 256 ≤ i) : bit l i = false := by
  unfold bit
  rw [List.getD_eq_getElem?_getD, List.getElem?_eq_none (by omega)]
  simp

/-- The order of labels, by their first unlike bit. -/
def ord (a b : List UInt8) : Int := if cmn a b = 256 then 0 else if bit a (cmn a b) then 1 else -1

theorem ord_symm (a b : List UInt8) : ord b a = - ord a b := by
  unfold ord
  rw [cmn_symm b a]
  by_cases h : cmn a b = 256
  · simp [h]
  · have hn := cmn_ne a b (by have := cmn_le a b; omega)
    simp only [h, if_false]
    cases h1 : bit a (cmn a b) <;> cases h2 : bit b (cmn a b) <;> simp_all

/-- A byte is before another one if it has a 0 where they first part. -/
theorem testBit_lt {x y k : Nat} (h1 : x.testBit k = false) (h2 : y.testBit k = true) (h : ∀ i, k < i → x.testBit i = y.testBit i) : x < y := by
  have e : x / 2 ^ (k + 1) = y / 2 ^ (k + 1) := by
    apply Nat.eq_of_testBit_eq
    intro i
    rw [Nat.testBit_div_two_pow, Nat.testBit_div_two_pow]
    exact h _ (by omega)
  have ex : x / 2 ^ k / 2 = x / 2 ^ (k + 1) := by rw [Nat.div_div_eq_div_mul, Nat.pow_succ]
  have ey : y / 2 ^ k / 2 = y / 2 ^ (k + 1) := by rw [Nat.div_div_eq_div_mul, Nat.pow_succ]
  rw [Nat.testBit_eq_decide_div_mod_eq] at h1 h2
  have h1' := of_decide_eq_false h1
  have h2' := of_decide_eq_true h2
  have : x / 2 ^ k < y / 2 ^ k := by omega
  exact Nat.lt_of_div_lt_div this

theorem byte_lt {x y : UInt8} {k : Nat} (_hk : k < 8) (h1 : x.toNat.testBit k = false) (h2 : y.toNat.testBit k = true) (h : ∀ i, k < i → i < 8 → x.toNat.testBit i = y.toNat.testBit i) : x < y := by
  rw [UInt8.lt_iff_toNat_lt]
  refine testBit_lt h1 h2 fun i hi => ?_
  by_cases h8 : i < 8
  · exact h i hi h8
  · have hx : x.toNat < 2 ^ i := Nat.lt_of_lt_of_le x.toNat_lt (Nat.pow_le_pow_right (by omega) (by omega))
    have hy : y.toNat < 2 ^ i := Nat.lt_of_lt_of_le y.toNat_lt (Nat.pow_le_pow_right (by omega) (by omega))
    rw [Nat.testBit_lt_two_pow hx, Nat.testBit_lt_two_pow hy]

theorem compare_split : ∀ (j : Nat) (a b : List UInt8), a.length = b.length → j < a.length → (∀ i, i < j → a.getD i 0 = b.getD i 0) → a.getD j 0 ≠ b.getD j 0 → Lib.compareBytes a b = if a.getD j 0 < b.getD j 0 then -1 else 1
  | _, [], _, _, hj, _, _ => by simp at hj
  | _, _ :: _, [], hl, _, _, _ => by simp at hl
  | 0, x :: as, y :: bs, _, _, _, hne => by
    simp only [List.getD_cons_zero] at hne ⊢
    unfold Lib.compareBytes
    by_cases h : x < y
    · simp [h]
    · have : y < x := by
        rw [UInt8.lt_iff_toNat_lt] at h ⊢
        have : x.toNat ≠ y.toNat := fun e => hne (UInt8.toNat_inj.1 e)
        omega
      simp [h, this]
  | j + 1, x :: as, y :: bs, hl, hj, heq, hne => by
    have h0 := heq 0 (by omega)
    simp only [List.getD_cons_zero] at h0
    subst h0
    unfold Lib.compareBytes
    have hx : ¬ x < x := by rw [UInt8.lt_iff_toNat_lt]; omega
    simp only [hx, if_false, List.getD_cons_succ]
    exact compare_split j as bs (by simpa using hl) (by simpa using hj) (fun i hi => by simpa using heq (i + 1) (by omega)) (by simpa using hne)

theorem compare_self : ∀ a : List UInt8, Lib.compareBytes a a = 0
  | [] => rfl
  | x :: as => by
    have hx : ¬ x < x := by rw [UInt8.lt_iff_toNat_lt]; omega
    unfold Lib.compareBytes
    simp only [hx, if_false]
    exact compare_self as

/-- The order by bytes is the order by bits. -/
theorem compare_ord {a b : List UInt8} (ha : a.length = 32) (hb : b.length = 32) : Lib.compareBytes a b = ord a b := by
  by_cases h : cmn a b = 256
  · have := (cmn_all ha hb).1 h
    subst this
    rw [compare_self]; simp [ord, cmn_self]
  · have hlt : cmn a b < 256 := by have := cmn_le a b; omega
    have hne := cmn_ne a b hlt
    have hj : cmn a b / 8 < 32 := by omega
    have hsame : ∀ i, i < cmn a b / 8 → a.getD i 0 = b.getD i 0 := fun i hi => byte_of_bits fun k hk => cmn_same a b (by omega)
    have hbit : ∀ i, 7 - cmn a b % 8 < i → i < 8 → (a.getD (cmn a b / 8) 0).toNat.testBit i = (b.getD (cmn a b / 8) 0).toNat.testBit i := by
      intro i h1 h2
      have := cmn_same a b (i := 8 * (cmn a b / 8) + (7 - i)) (by omega)
      rw [bit_at _ _ _ (by omega), bit_at _ _ _ (by omega), show 7 - (7 - i) = i from by omega] at this
      exact this
    unfold bit at hne
    have hd : a.getD (cmn a b / 8) 0 ≠ b.getD (cmn a b / 8) 0 := fun e => hne (by rw [e])
    rw [compare_split (cmn a b / 8) a b (by omega) (by omega) hsame hd]
    unfold ord
    simp only [h, if_false]
    have ea : bit a (cmn a b) = (a.getD (cmn a b / 8) 0).toNat.testBit (7 - cmn a b % 8) := rfl
    rw [ea]
    cases h1 : (a.getD (cmn a b / 8) 0).toNat.testBit (7 - cmn a b % 8) with
    | false =>
      have h2 : (b.getD (cmn a b / 8) 0).toNat.testBit (7 - cmn a b % 8) = true := by
        rw [h1] at hne
        cases hb2 : (b.getD (cmn a b / 8) 0).toNat.testBit (7 - cmn a b % 8) with
        | false => rw [hb2] at hne; exact absurd rfl hne
        | true => rfl
      have := byte_lt (k := 7 - cmn a b % 8) (by omega) h1 h2 hbit
      rw [if_pos this]; simp
    | true =>
      have h2 : (b.getD (cmn a b / 8) 0).toNat.testBit (7 - cmn a b % 8) = false := by
        rw [h1] at hne
        cases hb2 : (b.getD (cmn a b / 8) 0).toNat.testBit (7 - cmn a b % 8) with
        | true => rw [hb2] at hne; exact absurd rfl hne
        | false => rfl
      have hgt := byte_lt (k := 7 - cmn a b % 8) (by omega) h2 h1 (fun i x y => (hbit i x y).symm)
      have : ¬ a.getD (cmn a b / 8) 0 < b.getD (cmn a b / 8) 0 := by
        rw [UInt8.lt_iff_toNat_lt] at hgt ⊢; omega
      simp only [this, if_false]
      rfl

/-- Byte j of the prefix of n bits. -/
def cutB (l : List UInt8) (n j : Nat) : UInt8 := if j < n / 8 then l.getD j 0 else if j = n / 8 then l.getD j 0 &&& UInt8.ofNat (255 - 255 / 2 ^ (n % 8)) else 0
/-- The first n bits of a label, the others 0. -/
def cut (l : List UInt8) (n : Nat) : List UInt8 := (List.range 32).map (cutB l n)

theorem cut_length (l : List UInt8) (n : Nat) : (cut l n).length = 32 := by simp [cut]
theorem cut_getD (l : List UInt8) (n j : Nat) (hj : j < 32) : (cut l n).getD j 0 = cutB l n j := by
  simp [cut, List.getD_eq_getElem?_getD, hj]

theorem mask_bit (r k : Nat) (hr : r < 8) (hk : k < 8) : (255 - 255 / 2 ^ r : Nat).testBit k = decide (7 - k < r) := by
  have : ∀ r : Fin 8, ∀ k : Fin 8, (255 - 255 / 2 ^ r.val : Nat).testBit k.val = decide (7 - k.val < r.val) := by decide
  exact this ⟨r, hr⟩ ⟨k, hk⟩

theorem cut_bit (l : List UInt8) (n i : Nat) (_hn : n ≤ 256) (hi : i < 256) : bit (cut l n) i = (decide (i < n) && bit l i) := by
  unfold bit
  rw [cut_getD _ _ _ (by omega)]
  unfold cutB
  by_cases h1 : i / 8 < n / 8
  · have : i < n := by omega
    simp [h1, this]
  · by_cases h2 : i / 8 = n / 8
    · have hm : 255 - 255 / 2 ^ (n % 8) < 2 ^ 8 := Nat.lt_of_le_of_lt (Nat.sub_le _ _) (by decide)
      rw [if_neg h1, if_pos h2, UInt8.toNat_and, Nat.testBit_and, UInt8.toNat_ofNat', Nat.mod_eq_of_lt hm, mask_bit _ _ (by omega) (by omega)]
      have : (7 - (7 - i % 8) < n % 8) ↔ i < n := by omega
      rw [decide_eq_decide.2 this, Bool.and_comm]
    · have : ¬ i < n := by omega
      simp [h1, h2, this]

theorem cut_all (l : List UInt8) (hl : l.length = 32) : cut l 256 = l :=
  lab_ext (cut_length _ _) hl fun i hi => by rw [cut_bit _ _ _ (Nat.le_refl _) hi]; simp [hi]
theorem cut_cut (l : List UInt8) (n m : Nat) (hn : n ≤ 256) (hm : m ≤ 256) : cut (cut l n) m = cut l (min n m) :=
  lab_ext (cut_length _ _) (cut_length _ _) fun i hi => by
    rw [cut_bit _ _ _ hm hi, cut_bit _ _ _ hn hi, cut_bit _ _ _ (by omega) hi, ← Bool.and_assoc]
    congr 1
    rw [← Bool.decide_and]
    exact decide_eq_decide.2 (by omega)

/-- Is a prefix in form? -/
def good (n : Int) (l : List UInt8) : Bool := decide (0 ≤ n ∧ n ≤ 256) && (cut l n.toNat == l)

/-- A label with a bit set. -/
def setb (l : List UInt8) (i : Nat) : List UInt8 := l.set (i / 8) (l.getD (i / 8) 0 ||| UInt8.ofNat (2 ^ (7 - i % 8)))
theorem setb_length (l : List UInt8) (i : Nat) : (setb l i).length = l.length := by simp [setb]
theorem pow_bit (r k : Nat) (hr : r < 8) (hk : k < 8) : (2 ^ (7 - r) : Nat).testBit k = decide (7 - k = r) := by
  have : ∀ r : Fin 8, ∀ k : Fin 8, (2 ^ (7 - r.val) : Nat).testBit k.val = decide (7 - k.val = r.val) := by decide
  exact this ⟨r, hr⟩ ⟨k, hk⟩
theorem pow_lt (r : Nat) : 2 ^ (7 - r) < 256 := Nat.lt_of_le_of_lt (Nat.pow_le_pow_right (by omega) (by omega : 7 - r ≤ 7)) (by decide)
theorem setb_bit (l : List UInt8) (i j : Nat) (hl : l.length = 32) (hi : i < 256) (_hj : j < 256) : bit (setb l i) j = (decide (j = i) || bit l j) := by
  unfold bit setb
  by_cases h : j / 8 = i / 8
  · rw [h, List.getD_eq_getElem?_getD, List.getElem?_set_self (by omega), Option.getD_some, UInt8.toNat_or, Nat.testBit_or, UInt8.toNat_ofNat', Nat.mod_eq_of_lt (pow_lt _),
      pow_bit _ _ (by omega) (by omega), Bool.or_comm]
    congr 1
    exact decide_eq_decide.2 (by omega)
  · rw [List.getD_eq_getElem?_getD, List.getElem?_set_ne (by omega), ← List.getD_eq_getElem?_getD]
    have : j ≠ i := fun e => h (by rw [e])
    simp [this]
theorem good_cut (l : List UInt8) (n : Nat) (hn : n ≤ 256) : good n (cut l n) = true := by
  unfold good
  rw [Int.toNat_natCast, cut_cut _ _ _ hn hn, Nat.min_self]
  simp; omega
theorem cmn_cut (l : List UInt8) (n : Nat) (hn : n ≤ 256) : n ≤ cmn (cut l n) l :=
  cmn_ge hn fun i hi => by rw [cut_bit _ _ _ hn (by omega)]; simp [hi]
theorem cut_eq_iff (a b : List UInt8) (n : Nat) (hn : n ≤ 256) : cut a n = cut b n ↔ ∀ i, i < n → bit a i = bit b i := by
  constructor
  · intro h i hi
    have := congrArg (fun l => bit l i) h
    simpa [cut_bit, hn, (by omega : i < 256), hi] using this
  · intro h
    exact lab_ext (cut_length _ _) (cut_length _ _) fun i hi => by
      rw [cut_bit _ _ _ hn hi, cut_bit _ _ _ hn hi]
      by_cases hin : i < n
      · rw [h i hin]
      · simp [hin]
theorem cmn_cut_ge (a b : List UInt8) (n : Nat) (hn : n ≤ 256) : n ≤ cmn (cut a n) b ↔ cut a n = cut b n := by
  rw [cut_eq_iff _ _ _ hn]
  constructor
  · intro h i hi
    have := cmn_same (cut a n) b (i := i) (by omega)
    rw [cut_bit _ _ _ hn (by omega)] at this
    simpa [hi] using this
  · intro h
    exact cmn_ge hn fun i hi => by rw [cut_bit _ _ _ hn (by omega)]; simpa [hi] using h i hi
theorem cmn_good_ge {p b : List UInt8} {n : Int} (hg : good n p = true) : n ≤ (cmn p b : Nat) ↔ cut b n.toNat = p := by
  unfold good at hg
  simp only [Bool.and_eq_true, decide_eq_true_eq, beq_iff_eq] at hg
  obtain ⟨⟨h0, h1⟩, hc⟩ := hg
  have := cmn_cut_ge p b n.toNat (by omega)
  rw [hc] at this
  constructor
  · intro h; exact (this.1 (by omega)).symm
  · intro h; have := this.2 h.symm; omega

/-- Does a label begin as a prefix? -/
def has (n : Int) (p l : List UInt8) : Bool := good n p && decide (n ≤ (cmn p l : Nat))
/-- Does every label that begins as the second prefix begin as the first? -/
def over (n : Int) (p : List UInt8) (m : Int) (q : List UInt8) : Bool := good m q && decide (n ≤ m) && has n p q

theorem has_cut (a l : List UInt8) (n : Nat) (hn : n ≤ 256) : has n (cut a n) l = decide (cut a n = cut l n) := by
  unfold has
  rw [good_cut a n hn, Bool.true_and]
  exact decide_eq_decide.2 (by rw [← cmn_cut_ge _ _ _ hn]; omega)
theorem has_cut_self (l : List UInt8) (n : Nat) (hn : n ≤ 256) : has n (cut l n) l = true := by
  rw [has_cut _ _ _ hn]; simp

/-- A prefix with a bit more. -/
def nextB (n : Nat) (p : List UInt8) (b : Int) : List UInt8 := if b = 1 then setb p n else p
theorem setb_zero_len {p : List UInt8} (hp : p.length = 32) (n : Nat) : (nextB n p 0).length = 32 := by simp [nextB, hp]
theorem nextB_length {p : List UInt8} (hp : p.length = 32) (n : Nat) (b : Int) : (nextB n p b).length = 32 := by
  unfold nextB; split
  · rw [setb_length]; exact hp
  · exact hp
theorem next_cut (l : List UInt8) (n : Nat) (hn : n < 256) : nextB n (cut l n) (bit l n).toNat = cut l (n + 1) := by
  apply lab_ext (nextB_length (cut_length _ _) _ _) (cut_length _ _)
  intro i hi
  rw [cut_bit _ _ _ (by omega) hi]
  unfold nextB
  cases hb : bit l n with
  | true =>
    simp only [Bool.toNat_true, Int.cast_ofNat_Int, if_true]
    rw [setb_bit _ _ _ (cut_length _ _) hn hi, cut_bit _ _ _ (by omega) hi]
    by_cases h : i = n
    · subst h; simp [hb]
    · have : (i < n + 1) ↔ i < n := by omega
      simp [h, this]
  | false =>
    simp only [Bool.toNat_false]
    rw [if_neg (by decide), cut_bit _ _ _ (by omega) hi]
    by_cases h : i = n
    · subst h; simp [hb]
    · have : (i < n + 1) ↔ i < n := by omega
      simp [this]

theorem between {a b c : List UInt8} (h1 : ord a b ≤ 0) (h2 : ord b c ≤ 0) :
    ord a c ≤ 0 ∧ cmn a c ≤ cmn a b ∧ cmn a c ≤ cmn b c ∧ cmn a c = min (cmn a b) (cmn b c) := by
  have la := cmn_le a b
  have lb := cmn_le b c
  have key : ∀ x y : List UInt8, ord x y ≤ 0 → cmn x y < 256 → bit x (cmn x y) = false ∧ bit y (cmn x y) = true := by
    intro x y ho hl
    have hn := cmn_ne x y hl
    unfold ord at ho
    rw [if_neg (by omega)] at ho
    cases hx : bit x (cmn x y)
    · exact ⟨rfl, by rw [hx] at hn; cases hy : bit y (cmn x y) <;> simp_all⟩
    · rw [hx] at ho; simp at ho
  rcases Nat.lt_trichotomy (cmn a b) (cmn b c) with h | h | h
  · obtain ⟨k1, k2⟩ := key a b h1 (by omega)
    have k3 := cmn_same b c h
    have e : cmn a c = cmn a b := cmn_eq la (fun i hi => (cmn_same a b hi).trans (cmn_same b c (by omega))) (fun _ => by rw [k1, ← k3, k2]; simp)
    refine ⟨?_, by omega, by omega, by omega⟩
    unfold ord
    rw [e, if_neg (by omega), k1]; simp
  · by_cases h256 : cmn a b = 256
    · have e : cmn a c = 256 := cmn_eq (Nat.le_refl _) (fun i hi => (cmn_same a b (by omega)).trans (cmn_same b c (by omega))) (fun x => by omega)
      refine ⟨by unfold ord; rw [if_pos e]; simp, by omega, by omega, by omega⟩
    · obtain ⟨_, k2⟩ := key a b h1 (by omega)
      obtain ⟨k3, _⟩ := key b c h2 (by omega)
      rw [← h, k2] at k3
      simp at k3
  · obtain ⟨k1, k2⟩ := key b c h2 (by omega)
    have k3 := cmn_same a b h
    have e : cmn a c = cmn b c := cmn_eq lb (fun i hi => (cmn_same a b (by omega)).trans (cmn_same b c hi)) (fun _ => by rw [k3, k1, k2]; simp)
    refine ⟨?_, by omega, by omega, by omega⟩
    unfold ord
    rw [e, if_neg (by omega), k3, k1]; simp
end B
end Go.Proofs.Ytgjmnhbkdccgpaa
