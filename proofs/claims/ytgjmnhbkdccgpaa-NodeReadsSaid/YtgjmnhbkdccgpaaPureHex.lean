/- Plain laws about labels as 64 small digits. No program in sight. -/
import Derived.Test.YtgjmnhbkdccgpaaPureBits
namespace Go.Proofs.Ytgjmnhbkdccgpaa
namespace B

/-- The first k bytes are the same. -/
def SameTo (l m : List UInt8) (k : Nat) : Prop := ∀ i, i < k → l.getD i 0 = m.getD i 0
/-- If the first 1 of D is bit j from above, two labels part there, in byte k. -/
def FirstAt (l m : List UInt8) (k D : Nat) : Prop := ∀ j, j < 8 → (∀ i, i < j → D.testBit (7 - i) = false) → D.testBit (7 - j) = true → cmn l m = 8 * k + j
/-- z is D moved up by j places, and nothing was lost. -/
def Shl (D j z : Nat) : Prop := z = D * 2 ^ j ∧ ∀ i, i < j → D.testBit (7 - i) = false
theorem Shl.start (D : Nat) : Shl D 0 D := ⟨by simp, fun i hi => by omega⟩
theorem top_one {z : Nat} (h : z.testBit 7 = true) : (((z &&& 128 : Nat) : Int) == 0) = false := by
  have : (z &&& 128) ≠ 0 := fun e => by
    have := congrArg (fun x => Nat.testBit x 7) e
    simp only [Nat.testBit_and, h] at this
    exact absurd this (by decide)
  rw [beq_eq_false_iff_ne]; omega
theorem top_none {z : Nat} (h : ¬ z.testBit 7 = true) : (((z &&& 128 : Nat) : Int) == 0) = true := by
  have : (z &&& 128) = 0 := by
    apply Nat.eq_of_testBit_eq
    intro i
    rw [Nat.testBit_and, show (128 : Nat) = 2 ^ 7 from rfl, Nat.testBit_two_pow]
    by_cases e : 7 = i
    · subst e; simp [h]
    · simp [e]
  rw [this]; rfl
theorem Shl.bit {D j z : Nat} (h : Shl D j z) (hj : j ≤ 7) : z.testBit 7 = D.testBit (7 - j) := by
  rw [h.1, Nat.testBit_mul_two_pow]
  simp [hj]
theorem lt_128 {z : Nat} (hz : z < 256) (h : ¬ z.testBit 7 = true) : z < 128 := by
  rw [Nat.testBit_eq_decide_div_mod_eq] at h
  have : ¬ z / 128 % 2 = 1 := by simpa using h
  omega
theorem Shl.next {D j z : Nat} (h : Shl D j z) (hj : j ≤ 7) (hb : ¬ z.testBit 7 = true) : Shl D (j + 1) (2 * z) := by
  refine ⟨by rw [h.1, Nat.pow_succ]; rw [Nat.mul_comm 2, Nat.mul_assoc], fun i hi => ?_⟩
  by_cases e : i = j
  · subst e
    rw [h.bit hj] at hb
    simpa using hb
  · exact h.2 i (by omega)
theorem Shl.more {D j z : Nat} (h : Shl D j z) (hj : j ≤ 7) (hD : D < 256) (h0 : D ≠ 0) (hb : ¬ z.testBit 7 = true) : j < 7 := by
  rcases Nat.lt_or_ge j 7 with h7 | h7
  · exact h7
  · have e : j = 7 := by omega
    subst e
    exfalso
    have hn := (h.next (Nat.le_refl _) hb).2
    apply h0
    apply Nat.eq_of_testBit_eq
    intro i
    rw [Nat.zero_testBit]
    by_cases hi : i < 8
    · have := hn (7 - i) (by omega)
      rwa [show 7 - (7 - i) = i from by omega] at this
    · exact Nat.testBit_lt_two_pow (Nat.lt_of_lt_of_le hD (by rw [show (256 : Nat) = 2 ^ 8 from rfl]; exact Nat.pow_le_pow_right (by omega) (by omega)))
/-- Where two labels part, told by the first unlike byte. -/
theorem cmn_byte (l m : List UInt8) (k : Nat) (hk : k < 32) (hs : SameTo l m k) : FirstAt l m k (l.getD k 0 ^^^ m.getD k 0).toNat := by
  intro j hj h0 h1
  have hx : ∀ i, i < 8 → bit l (8 * k + i) = (bit m (8 * k + i) ^^ (l.getD k 0 ^^^ m.getD k 0).toNat.testBit (7 - i)) := by
    intro i hi
    rw [bit_at _ _ _ hi, bit_at _ _ _ hi, UInt8.toNat_xor, Nat.testBit_xor]
    cases (l.getD k 0).toNat.testBit (7 - i) <;> cases (m.getD k 0).toNat.testBit (7 - i) <;> rfl
  refine cmn_eq (by omega) (fun i hi => ?_) (fun _ => ?_)
  · by_cases h : i < 8 * k
    · unfold bit
      rw [hs (i / 8) (by omega)]
    · have e : i = 8 * k + (i - 8 * k) := by omega
      rw [e, hx _ (by omega), h0 _ (by omega), Bool.xor_false]
  · rw [hx j hj, h1]
    cases bit m (8 * k + j) <;> simp
theorem byte_zero (l m : List UInt8) (k : Nat) (hs : SameTo l m k) (h : (l.getD k 0 ^^^ m.getD k 0).toNat = 0) : SameTo l m (k + 1) := by
  intro i hi
  by_cases e : i = k
  · subst e
    have h2 : l.getD i 0 ^^^ m.getD i 0 = 0 := UInt8.toNat_inj.1 h
    have := congrArg (· ^^^ m.getD i 0) h2
    simpa only [UInt8.xor_assoc, UInt8.xor_self, UInt8.xor_zero, UInt8.zero_xor] using this
  · exact hs i (by omega)
theorem bytes_all {l m : List UInt8} (hl : l.length = 32) (hm : m.length = 32) (hs : SameTo l m 32) : cmn l m = 256 :=
  (cmn_all hl hm).2 (lab_ext hl hm fun i hi => by unfold bit; rw [hs _ (by omega)])

theorem setb_same (l : List UInt8) (i : Nat) (hl : l.length = 32) (hi : i < 256) (h : bit l i = true) : setb l i = l :=
  lab_ext (by rw [setb_length, hl]) hl fun j hj => by
    rw [setb_bit _ _ _ hl hi hj]
    by_cases e : j = i
    · subst e; simp [h]
    · simp [e]
theorem or_add {x k : Nat} (hx : x.testBit k = false) : x ||| 2 ^ k = x + 2 ^ k := by
  have hz : x &&& 2 ^ k = 0 := by
    apply Nat.eq_of_testBit_eq
    intro i
    rw [Nat.testBit_and, Nat.testBit_two_pow]
    by_cases e : k = i
    · subst e; simp [hx]
    · simp [e]
  have h := Nat.two_pow_add_eq_or_of_lt (i := k) (b := x % 2 ^ k) (Nat.mod_lt _ (Nat.two_pow_pos k)) (x / 2 ^ k)
  have h2 : x / 2 ^ k % 2 = 0 := by
    rw [Nat.testBit_eq_decide_div_mod_eq] at hx
    have := of_decide_eq_false hx
    omega
  apply Nat.eq_of_testBit_eq
  intro i
  rw [Nat.testBit_or, Nat.testBit_two_pow]
  have e1 : x + 2 ^ k = 2 ^ k * (x / 2 ^ k + 1) + x % 2 ^ k := by
    have := Nat.div_add_mod x (2 ^ k)
    rw [Nat.mul_add]; omega
  rw [e1, Nat.testBit_two_pow_mul_add _ (Nat.mod_lt _ (Nat.two_pow_pos k))]
  by_cases hik : i < k
  · rw [if_pos hik, Nat.testBit_mod_two_pow]
    simp [hik, show ¬ k = i from by omega]
  · rw [if_neg hik]
    have e2 : x.testBit i = (x / 2 ^ k).testBit (i - k) := by rw [Nat.testBit_div_two_pow]; congr 1; omega
    rw [e2]
    by_cases e : k = i
    · subst e
      simp only [Nat.sub_self, decide_true, Bool.or_true]
      rw [Nat.testBit_eq_decide_div_mod_eq]
      simp; omega
    · obtain ⟨m, hm⟩ : ∃ m, i - k = m + 1 := ⟨i - k - 1, by omega⟩
      rw [hm, Nat.testBit_succ, Nat.testBit_succ]
      simp only [e, decide_false, Bool.or_false]
      congr 1; omega
theorem setb_add (l : List UInt8) (i : Nat) (h : bit l i = false) :
    (l.getD (i / 8) 0).toNat + 2 ^ (7 - i % 8) = (l.getD (i / 8) 0 ||| UInt8.ofNat (2 ^ (7 - i % 8))).toNat := by
  rw [UInt8.toNat_or, UInt8.toNat_ofNat', Nat.mod_eq_of_lt (pow_lt _)]
  exact (or_add h).symm

/-- A small digit. -/
def hexd (n : Nat) : UInt8 := if n < 10 then UInt8.ofNat (48 + n) else UInt8.ofNat (87 + n)
/-- A small digit's worth; 255: it is none. -/
def dig (c : UInt8) : Nat := if 48 ≤ c.toNat ∧ c.toNat ≤ 57 then c.toNat - 48 else if 97 ≤ c.toNat ∧ c.toNat ≤ 102 then c.toNat - 87 else 255
/-- A label's digits. -/
def hex (l : List UInt8) : List UInt8 := l.flatMap fun b => [hexd (b.toNat / 16), hexd (b.toNat % 16)]

theorem dig_hexd : ∀ n : Nat, n < 16 → dig (hexd n) = n := by decide
theorem hexd_dig (c : UInt8) (h : dig c ≤ 15) : hexd (dig c) = c := by
  have key : ∀ n : Fin 256, dig (UInt8.ofNat n.val) ≤ 15 → hexd (dig (UInt8.ofNat n.val)) = UInt8.ofNat n.val := by decide +kernel
  have := key ⟨c.toNat, c.toNat_lt⟩
  simp only [UInt8.ofNat_toNat] at this
  exact this h
theorem hex_length (l : List UInt8) : (hex l).length = 2 * l.length := by
  unfold hex
  induction l with
  | nil => rfl
  | cons a l ih => rw [List.flatMap_cons, List.length_append, ih]; simp; omega
theorem hex_snoc (l : List UInt8) (b : UInt8) : hex (l ++ [b]) = hex l ++ [hexd (b.toNat / 16), hexd (b.toNat % 16)] := by
  simp [hex, List.flatMap_append]
/-- Are both digits of byte i ones? -/
def okAt (s : List UInt8) (i : Nat) : Bool := decide (dig (s.getD (2 * i) 0) ≤ 15) && decide (dig (s.getD (2 * i + 1) 0) ≤ 15)
/-- Byte i of digits. -/
def valAt (s : List UInt8) (i : Nat) : UInt8 := UInt8.ofNat (16 * dig (s.getD (2 * i) 0) + dig (s.getD (2 * i + 1) 0))
def read (s : List UInt8) : Option (List UInt8) :=
  if s.length = 64 ∧ (List.range 32).all (okAt s) = true then some ((List.range 32).map (valAt s)) else none
theorem hex_getD : ∀ (l : List UInt8) (i : Nat), i < l.length → (hex l).getD (2 * i) 0 = hexd ((l.getD i 0).toNat / 16) ∧ (hex l).getD (2 * i + 1) 0 = hexd ((l.getD i 0).toNat % 16)
  | [], _, h => by simp at h
  | a :: l, 0, _ => by simp [hex]
  | a :: l, i + 1, h => by
    have ih := hex_getD l i (by simpa using h)
    have e : hex (a :: l) = hexd (a.toNat / 16) :: hexd (a.toNat % 16) :: hex l := by simp [hex]
    rw [e, show 2 * (i + 1) = 2 * i + 1 + 1 from by omega, show 2 * i + 1 + 1 + 1 = (2 * i + 1) + 1 + 1 from rfl]
    simp only [List.getD_cons_succ]
    exact ih
theorem read_hex {l : List UInt8} (hl : l.length = 32) : read (hex l) = some l := by
  have hv : ∀ i, i < 32 → okAt (hex l) i = true ∧ valAt (hex l) i = l.getD i 0 := by
    intro i hi
    obtain ⟨h1, h2⟩ := hex_getD l i (by omega)
    have hb := (l.getD i 0).toNat_lt
    unfold okAt valAt
    rw [h1, h2, dig_hexd _ (by omega), dig_hexd _ (by omega)]
    refine ⟨by rw [decide_eq_true (by omega), decide_eq_true (by omega)]; rfl, ?_⟩
    rw [show 16 * ((l.getD i 0).toNat / 16) + (l.getD i 0).toNat % 16 = (l.getD i 0).toNat from by omega, UInt8.ofNat_toNat]
  unfold read
  rw [if_pos]
  · congr 1
    apply List.ext_getElem
    · simp [hl]
    · intro i h1 h2
      simp only [List.length_map, List.length_range] at h1
      rw [List.getElem_map, List.getElem_range, (hv i h1).2, List.getD_eq_getElem?_getD, List.getElem?_eq_getElem h2, Option.getD_some]
  · refine ⟨by rw [hex_length, hl], ?_⟩
    rw [List.all_eq_true]
    intro i hi
    exact (hv i (List.mem_range.1 hi)).1

theorem hexd_lt : ∀ a b : Fin 16, (hexd a.val).toNat < (hexd b.val).toNat ↔ a.val < b.val := by decide
theorem hexd_eq : ∀ a b : Fin 16, hexd a.val = hexd b.val ↔ a.val = b.val := by decide
/-- Digits stand in the labels' order. -/
theorem compare_cons (x y : UInt8) (a b : List UInt8) : Lib.compareBytes (x :: a) (y :: b) = if x.toNat < y.toNat then -1 else if y.toNat < x.toNat then 1 else Lib.compareBytes a b := rfl
theorem compare_hex : ∀ a b : List UInt8, a.length = b.length → Lib.compareBytes (hex a) (hex b) = Lib.compareBytes a b
  | [], [], _ => rfl
  | x :: a, y :: b, h => by
    have ih := compare_hex a b (by simpa using h)
    have ea : hex (x :: a) = hexd (x.toNat / 16) :: hexd (x.toNat % 16) :: hex a := by simp [hex]
    have eb : hex (y :: b) = hexd (y.toNat / 16) :: hexd (y.toNat % 16) :: hex b := by simp [hex]
    rw [ea, eb]
    have hx := x.toNat_lt
    have hy := y.toNat_lt
    have l1 := hexd_lt ⟨x.toNat / 16, by omega⟩ ⟨y.toNat / 16, by omega⟩
    have l2 := hexd_lt ⟨y.toNat / 16, by omega⟩ ⟨x.toNat / 16, by omega⟩
    have l3 := hexd_lt ⟨x.toNat % 16, by omega⟩ ⟨y.toNat % 16, by omega⟩
    have l4 := hexd_lt ⟨y.toNat % 16, by omega⟩ ⟨x.toNat % 16, by omega⟩
    simp only [compare_cons, l1, l2, l3, l4, ih]
    by_cases h1 : x.toNat / 16 < y.toNat / 16
    · rw [if_pos h1, if_pos (by omega)]
    · rw [if_neg h1]
      by_cases h2 : y.toNat / 16 < x.toNat / 16
      · rw [if_pos h2, if_neg (by omega), if_pos (by omega)]
      · rw [if_neg h2]
        by_cases h3 : x.toNat % 16 < y.toNat % 16
        · rw [if_pos h3, if_pos (by omega)]
        · rw [if_neg h3]
          by_cases h4 : y.toNat % 16 < x.toNat % 16
          · rw [if_pos h4, if_neg (by omega), if_pos (by omega)]
          · rw [if_neg h4, if_neg (by omega), if_neg (by omega)]
  | [], _ :: _, h => by simp at h
  | _ :: _, [], h => by simp at h
end B
end Go.Proofs.Ytgjmnhbkdccgpaa
