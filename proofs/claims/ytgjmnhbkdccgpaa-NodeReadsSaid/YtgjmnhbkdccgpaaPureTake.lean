/- Plain laws: a reader of bytes: what it takes, and when it is at fault. No program in sight. Plain laws: what a writer spells a reader reads. No program in sight. Plain laws: what a reader makes of a node's bytes, and that there is one spelling. No program in sight. -/
import Derived.Test.YtgjmnhbkdccgpaaPureCode
namespace Go.Proofs.Ytgjmnhbkdccgpaa
namespace D

/-- A reader's state: where it is, and its fault. -/
structure Rd where
  loc : Nat
  err : Nat
/-- So many bytes are taken. -/
def take (s : List UInt8) (r : Rd) (n : Nat) : List UInt8 × Rd :=
  if r.err ≠ 0 then ([], r) else if s.length - r.loc < n then ([], ⟨r.loc, 5⟩) else ((s.drop r.loc).take n, ⟨r.loc + n, 0⟩)
def fail (r : Rd) (e : Nat) : Rd := if r.err = 0 then ⟨r.loc, e⟩ else r
theorem take_loc (s : List UInt8) (r : Rd) (n : Nat) (h : r.loc ≤ s.length) : (take s r n).2.loc ≤ s.length := by
  unfold take
  split
  · exact h
  · split
    · exact h
    · show r.loc + n ≤ s.length; omega
theorem take_length (s : List UInt8) (r : Rd) (n : Nat) : (take s r n).1.length ≤ n := by
  unfold take
  split
  · simp
  · split
    · simp
    · simp; omega
theorem fail_loc (r : Rd) (e : Nat) : (fail r e).loc = r.loc := by unfold fail; split <;> rfl
/-- Is the first byte one that a number of so many bytes may not have? -/
def bad (size : Nat) (t : List UInt8) : Bool := match t with
  | [] => false
  | c :: _ => c.toNat == 0 || size == 8 && decide (127 < c.toNat)
/-- Bytes as a number, the highest first. -/
def num (t : List UInt8) : Nat := t.foldl (fun n c => n * 256 + c.toNat) 0
/-- A number is read: its size, and its bytes. -/
def number (s : List UInt8) (r : Rd) : Nat × Rd :=
  match (take s r 1).1 with
  | [] => (0, (take s r 1).2)
  | c :: _ =>
    if 8 < c.toNat then (0, fail (take s r 1).2 4)
    else
      if bad c.toNat (take s (take s r 1).2 c.toNat).1 then (0, fail (take s (take s r 1).2 c.toNat).2 4)
      else (num (take s (take s r 1).2 c.toNat).1, (take s (take s r 1).2 c.toNat).2)
/-- A label is read. -/
def label (s : List UInt8) (r : Rd) : List UInt8 × Rd :=
  let t := (take s r 32).1
  (t ++ (List.replicate 32 0).drop t.length, (take s r 32).2)
/-- The fault at the end. -/
def done (s : List UInt8) (r : Rd) : Nat := if r.err = 0 ∧ r.loc < s.length then 3 else r.err
section
variable {s : List UInt8} {r : Rd} {c : UInt8} {l : List UInt8}
theorem number_nil (h : (take s r 1).1 = []) : number s r = (0, (take s r 1).2) := by unfold number; rw [h]
theorem number_big (h : (take s r 1).1 = c :: l) (h8 : 8 < c.toNat) : number s r = (0, fail (take s r 1).2 4) := by
  unfold number; rw [h]; show (if _ then _ else _) = _; rw [if_pos h8]
theorem number_bad (h : (take s r 1).1 = c :: l) (h8 : ¬ 8 < c.toNat) (hb : bad c.toNat (take s (take s r 1).2 c.toNat).1 = true) : number s r = (0, fail (take s (take s r 1).2 c.toNat).2 4) := by
  unfold number; rw [h]; show (if _ then _ else if _ then _ else _) = _; rw [if_neg h8, if_pos hb]
theorem number_ok (h : (take s r 1).1 = c :: l) (h8 : ¬ 8 < c.toNat) (hb : bad c.toNat (take s (take s r 1).2 c.toNat).1 = false) : number s r = (num (take s (take s r 1).2 c.toNat).1, (take s (take s r 1).2 c.toNat).2) := by
  unfold number; rw [h]; show (if _ then _ else if _ then _ else _) = _; rw [if_neg h8, if_neg (by simp [hb])]
theorem number_loc (h : r.loc ≤ s.length) : (number s r).2.loc ≤ s.length := by
  have h1 := take_loc s r 1 h
  cases hc : (take s r 1).1 with
  | nil => rw [number_nil hc]; exact h1
  | cons c l =>
    by_cases h8 : 8 < c.toNat
    · rw [number_big hc h8]; show (fail _ 4).loc ≤ _; rw [fail_loc]; exact h1
    · have h2 := take_loc s (take s r 1).2 c.toNat h1
      cases hb : bad c.toNat (take s (take s r 1).2 c.toNat).1 with
      | true => rw [number_bad hc h8 hb]; show (fail _ 4).loc ≤ _; rw [fail_loc]; exact h2
      | false => rw [number_ok hc h8 hb]; exact h2
end
theorem foldl_num : ∀ (l : List UInt8) (a : Nat), l.foldl (fun n c => n * 256 + c.toNat) a = a * 256 ^ l.length + num l
  | [], a => by simp [num]
  | b :: l, a => by
    rw [num, List.foldl_cons, List.foldl_cons, foldl_num l, foldl_num l, List.length_cons, Nat.pow_succ, Nat.add_mul, Nat.zero_mul, Nat.zero_add, Nat.add_assoc, Nat.mul_assoc, Nat.mul_comm 256 (256 ^ l.length)]
theorem num_cons (b : UInt8) (l : List UInt8) : num (b :: l) = b.toNat * 256 ^ l.length + num l := by
  rw [num, List.foldl_cons, foldl_num, Nat.zero_mul, Nat.zero_add]
theorem num_snoc (l : List UInt8) (b : UInt8) : num (l ++ [b]) = num l * 256 + b.toNat := by
  rw [num, List.foldl_append]; rfl
theorem num_lt : ∀ l : List UInt8, num l < 256 ^ l.length
  | [] => by simp [num]
  | b :: l => by
    have := num_lt l
    have hb := b.toNat_lt
    rw [num_cons, List.length_cons, Nat.pow_succ]
    have h1 : b.toNat * 256 ^ l.length + 256 ^ l.length ≤ 256 ^ l.length * 256 := by
      rw [← Nat.succ_mul, Nat.mul_comm]; exact Nat.mul_le_mul_left _ hb
    omega
/-- What is read of a number before its last byte leaves room. -/
theorem num_take_lt (t : List UInt8) (size k : Nat) (ht : t.length ≤ size) (h8 : size ≤ 8) (hb : bad size t = false) (hk : k < t.length) : num (t.take k) < 36028797018963968 := by
  have h1 := num_lt (t.take k)
  rw [List.length_take, Nat.min_eq_left (by omega)] at h1
  by_cases h7 : k ≤ 6
  · have : 256 ^ k ≤ 256 ^ 6 := Nat.pow_le_pow_right (by omega) h7
    omega
  · obtain rfl : k = 7 := by omega
    obtain rfl : size = 8 := by omega
    match t, hk with
    | c :: t, hk =>
      have hc : c.toNat ≤ 127 := by
        unfold bad at hb
        simp at hb
        omega
      rw [List.take_succ_cons, num_cons]
      have h2 := num_lt (t.take 6)
      have hl : (t.take 6).length = 6 := by rw [List.length_take]; simp at hk; omega
      rw [hl] at h2 ⊢
      omega
theorem num_take_snoc (t : List UInt8) (k : Nat) (hk : k < t.length) : num (t.take (k + 1)) = num (t.take k) * 256 + (t.getD k 0).toNat := by
  rw [List.take_succ_eq_append_getElem hk, num_snoc, List.getD_eq_getElem?_getD, List.getElem?_eq_getElem hk]; rfl
end D
end Go.Proofs.Ytgjmnhbkdccgpaa
namespace Go.Proofs.Ytgjmnhbkdccgpaa
namespace D

theorem blen_lt (n : Nat) : n < 256 ^ blen n := by
  induction n using Nat.strongRecOn with
  | ind n ih =>
    by_cases h : n = 0
    · subst h; rw [blen_zero]; decide
    · rw [blen_pos h, Nat.pow_succ]
      have := ih (n / 256) (by omega)
      omega
theorem blen_top (n : Nat) (h : n ≠ 0) : 256 ^ (blen n - 1) ≤ n := by
  induction n using Nat.strongRecOn with
  | ind n ih =>
    rw [blen_pos h, Nat.add_sub_cancel]
    by_cases h0 : n / 256 = 0
    · rw [h0, blen_zero]; simp; omega
    · have h1 := ih (n / 256) (by omega) h0
      have h2 : blen (n / 256) = blen (n / 256) - 1 + 1 := by rw [blen_pos h0]; omega
      rw [h2, Nat.pow_succ]
      omega
theorem num_bek (n : Nat) : ∀ k, num (bek n k) = n % 256 ^ k
  | 0 => by simp [bek, num, Nat.mod_one]
  | k + 1 => by
    have e : n % (256 ^ k * 256) = n % 256 ^ k + 256 ^ k * (n / 256 ^ k % 256) := Nat.mod_mul
    have e2 : (256 : Nat) ^ (k + 1) = 256 ^ k * 256 := by rw [Nat.pow_succ]
    rw [bek, num_cons, num_bek n k, bek_length, UInt8.toNat_ofNat', e2, e, Nat.mul_comm (256 ^ k), Nat.add_comm]
theorem num_be (n : Nat) : num (be n) = n := by rw [be, num_bek, Nat.mod_eq_of_lt (blen_lt n)]
theorem be_length (n : Nat) : (be n).length = blen n := bek_length n _
theorem numB_length (n : Nat) : (numB n).length = blen n + 1 := by rw [numB, List.length_cons, be_length]
theorem take_mid (p t q : List UInt8) : take (p ++ (t ++ q)) ⟨p.length, 0⟩ t.length = (t, ⟨p.length + t.length, 0⟩) := by
  unfold take
  rw [if_neg (by simp), if_neg (by simp)]
  simp
theorem bad_be (n : Nat) (h : n < 9223372036854775808) : bad (blen n) (be n) = false := by
  by_cases h0 : n = 0
  · subst h0; rw [be, blen_zero]; rfl
  · have ht := blen_top n h0
    have hl := blen_lt n
    have h8 := blen_le 8 n (by omega)
    have hs : blen n = (blen n - 1) + 1 := by rw [blen_pos h0]; omega
    rw [be]
    generalize blen n = b at *
    rw [hs] at hl ⊢
    generalize b - 1 = k at *
    rw [bek, bad, UInt8.toNat_ofNat']
    rw [Nat.pow_succ] at hl
    have h1 : n / 256 ^ k < 256 := Nat.div_lt_of_lt_mul hl
    have h2 : 1 ≤ n / 256 ^ k := (Nat.le_div_iff_mul_le (Nat.pow_pos (by decide))).2 (by omega)
    rw [Nat.mod_eq_of_lt (show n / 256 ^ k < 2 ^ 8 from h1)]
    have e1 : (n / 256 ^ k == 0) = false := by simp; omega
    rw [e1, Bool.false_or]
    by_cases h7 : k = 7
    · subst h7
      have : n / 256 ^ 7 ≤ 127 := by
        have : n / 256 ^ 7 < 128 := Nat.div_lt_of_lt_mul (by omega)
        omega
      have e2 : decide (127 < n / 256 ^ 7) = false := by simp; omega
      rw [e2, Bool.and_false]
    · have e3 : (k + 1 == 8) = false := by simp; omega
      rw [e3, Bool.false_and]
/-- A number goes and comes back. -/
theorem number_back (p q : List UInt8) (n : Nat) (h : n < 9223372036854775808) : number (p ++ (numB n ++ q)) ⟨p.length, 0⟩ = (n, ⟨p.length + (numB n).length, 0⟩) := by
  have h8 := blen_le 8 n (by omega)
  have hb : (UInt8.ofNat (blen n)).toNat = blen n := by rw [UInt8.toNat_ofNat']; omega
  have t1 : take (p ++ (numB n ++ q)) ⟨p.length, 0⟩ 1 = ([UInt8.ofNat (blen n)], ⟨p.length + 1, 0⟩) := take_mid p [UInt8.ofNat (blen n)] (be n ++ q)
  have t2 : take (p ++ (numB n ++ q)) ⟨p.length + 1, 0⟩ (blen n) = (be n, ⟨p.length + 1 + blen n, 0⟩) := by
    have := take_mid (p ++ [UInt8.ofNat (blen n)]) (be n) q
    rw [be_length, List.length_append, List.length_singleton] at this
    rw [← this]
    simp [numB]
  have hc : (take (p ++ (numB n ++ q)) ⟨p.length, 0⟩ 1).1 = UInt8.ofNat (blen n) :: [] := by rw [t1]
  rw [number_ok hc (by omega) (by rw [hb, t1, t2]; exact bad_be n h), hb, t1, t2, num_be, numB_length]
  simp [Nat.add_assoc, Nat.add_comm]
/-- A label goes and comes back. -/
theorem label_back (p l q : List UInt8) (hl : l.length = 32) : label (p ++ (l ++ q)) ⟨p.length, 0⟩ = (l, ⟨p.length + 32, 0⟩) := by
  unfold label
  have := take_mid p l q
  rw [hl] at this
  rw [this]
  simp [hl]
theorem done_end (s : List UInt8) : done s ⟨s.length, 0⟩ = 0 := by unfold done; simp
end D
end Go.Proofs.Ytgjmnhbkdccgpaa
namespace Go.Proofs.Ytgjmnhbkdccgpaa
namespace D

def gt1 (t : List UInt8) : Bool := match t with
  | [] => false
  | c :: l => decide (1 < c.toNat) || (c.toNat == 1 && !l.isEmpty)
/-- A flag is read. -/
def flag (s : List UInt8) (r : Rd) : Bool × Rd :=
  if gt1 (take s r 1).1 = true then (false, fail (take s r 1).2 4) else ((take s r 1).1 == [1], (take s r 1).2)
def flagW (b : Bool) : List UInt8 := [if b then 1 else 0]
/-- What lies between two states of a reader. -/
structure At (s : List UInt8) (r : Rd) (xs : List UInt8) (r' : Rd) : Prop where
  e0 : r.err = 0
  e1 : r'.err = 0
  loc : r'.loc = r.loc + xs.length
  eq : s.drop r.loc = xs ++ s.drop r'.loc
theorem At.trans {s : List UInt8} {r r1 r2 : Rd} {xs ys : List UInt8} (h : At s r xs r1) (k : At s r1 ys r2) : At s r (xs ++ ys) r2 :=
  ⟨h.e0, k.e1, by rw [k.loc, h.loc, List.length_append, Nat.add_assoc], by rw [h.eq, k.eq, List.append_assoc]⟩
theorem fail_err (r : Rd) (e : Nat) (he : e ≠ 0) : (fail r e).err ≠ 0 := by
  unfold fail
  split
  · exact he
  · assumption
theorem at_take {s : List UInt8} {r : Rd} {n : Nat} (h : (take s r n).2.err = 0) : At s r (take s r n).1 (take s r n).2 ∧ (take s r n).1.length = n := by
  unfold take at h ⊢
  split at h
  · exact absurd h (by assumption)
  · rename_i h0
    split at h
    · cases h
    · rename_i h1
      rw [if_neg h0, if_neg h1]
      have hl : ((s.drop r.loc).take n).length = n := by rw [List.length_take, List.length_drop]; omega
      refine ⟨⟨by simpa using h0, rfl, by rw [hl], ?_⟩, hl⟩
      show s.drop r.loc = (s.drop r.loc).take n ++ s.drop (r.loc + n)
      rw [← List.drop_drop, List.take_append_drop]
theorem num_inj : ∀ (l m : List UInt8), l.length = m.length → num l = num m → l = m
  | [], [], _, _ => rfl
  | b :: l, c :: m, hl, h => by
    rw [num_cons, num_cons] at h
    simp only [List.length_cons, Nat.add_right_cancel_iff] at hl
    have h1 := num_lt l
    have h2 := num_lt m
    rw [← hl] at h h2
    have hP : 0 < 256 ^ l.length := Nat.pow_pos (by decide)
    have d1 : (b.toNat * 256 ^ l.length + num l) / 256 ^ l.length = b.toNat := by rw [Nat.add_comm, Nat.add_mul_div_right _ _ hP, Nat.div_eq_of_lt h1, Nat.zero_add]
    have d2 : (c.toNat * 256 ^ l.length + num m) / 256 ^ l.length = c.toNat := by rw [Nat.add_comm, Nat.add_mul_div_right _ _ hP, Nat.div_eq_of_lt h2, Nat.zero_add]
    have e : b.toNat = c.toNat := by rw [← d1, h, d2]
    rw [e] at h
    rw [UInt8.toNat_inj.1 e, num_inj l m hl (Nat.add_left_cancel h)]
theorem bek_num (t : List UInt8) : bek (num t) t.length = t := num_inj _ _ (bek_length _ _) (by rw [num_bek, Nat.mod_eq_of_lt (num_lt t)])
theorem blen_num (c : UInt8) (l : List UInt8) (hc : c.toNat ≠ 0) : blen (num (c :: l)) = l.length + 1 := by
  have h1 := num_lt (c :: l)
  rw [List.length_cons] at h1
  have h2 : 256 ^ l.length ≤ num (c :: l) := by
    rw [num_cons]
    exact Nat.le_trans (Nat.le_mul_of_pos_left _ (by omega)) (Nat.le_add_right _ _)
  have hP : 0 < 256 ^ l.length := Nat.pow_pos (by decide)
  generalize num (c :: l) = n at *
  have h3 := blen_lt n
  have h4 := blen_top n (by omega)
  have a1 : 256 ^ l.length < 256 ^ blen n := Nat.lt_of_le_of_lt h2 h3
  have a2 : 256 ^ (blen n - 1) < 256 ^ (l.length + 1) := Nat.lt_of_le_of_lt h4 h1
  have b1 := (Nat.pow_lt_pow_iff_right (by decide)).1 a1
  have b2 := (Nat.pow_lt_pow_iff_right (by decide)).1 a2
  omega
theorem numB_num (c : UInt8) (t : List UInt8) (hl : t.length = c.toNat) (hb : bad c.toNat t = false) : numB (num t) = c :: t := by
  match t, hl, hb with
  | [], hl, _ =>
    have : c = 0 := by apply UInt8.toNat_inj.1; rw [← hl]; rfl
    subst this
    rw [show num [] = 0 from rfl, numB, be, blen_zero]; rfl
  | d :: l, hl, hb =>
    have hd : d.toNat ≠ 0 := fun h => by
      unfold bad at hb
      simp [h] at hb
    have e := blen_num d l hd
    have hbk := bek_num (d :: l)
    rw [List.length_cons] at hl hbk
    rw [numB, be, e, hbk, hl]
    simp
theorem number_lt (s : List UInt8) (r : Rd) : (number s r).1 < 9223372036854775808 := by
  cases hc : (take s r 1).1 with
  | nil => rw [number_nil hc]; show 0 < _; decide
  | cons c l =>
    by_cases h8 : 8 < c.toNat
    · rw [number_big hc h8]; show 0 < _; decide
    · cases hb : bad c.toNat (take s (take s r 1).2 c.toNat).1 with
      | true => rw [number_bad hc h8 hb]; show 0 < _; decide
      | false =>
        rw [number_ok hc h8 hb]
        have hl := take_length s (take s r 1).2 c.toNat
        generalize (take s (take s r 1).2 c.toNat).1 = t at *
        show num t < _
        have h1 := num_lt t
        by_cases h7 : t.length ≤ 7
        · have : 256 ^ t.length ≤ 256 ^ 7 := Nat.pow_le_pow_right (by omega) h7
          omega
        · match t, hl, hb, h7 with
          | d :: m, hl, hb, h7 =>
            rw [List.length_cons] at hl h7
            have hc8 : c.toNat = 8 := by omega
            have hm : m.length = 7 := by omega
            have hd : d.toNat ≤ 127 := by
              unfold bad at hb
              rw [hc8] at hb
              simp at hb
              omega
            have h2 := num_lt m
            rw [num_cons, hm]
            rw [hm] at h2
            omega
theorem number_inv {s : List UInt8} {r : Rd} (h : (number s r).2.err = 0) : At s r (numB (number s r).1) (number s r).2 := by
  cases hc : (take s r 1).1 with
  | nil =>
    rw [number_nil hc] at h
    have := (at_take h).2
    rw [hc] at this; cases this
  | cons c l =>
    by_cases h8 : 8 < c.toNat
    · rw [number_big hc h8] at h; exact absurd h (fail_err _ _ (by decide))
    · cases hb : bad c.toNat (take s (take s r 1).2 c.toNat).1 with
      | true => rw [number_bad hc h8 hb] at h; exact absurd h (fail_err _ _ (by decide))
      | false =>
        rw [number_ok hc h8 hb] at h ⊢
        obtain ⟨a2, l2⟩ := at_take h
        obtain ⟨a1, l1⟩ := at_take a2.e0
        rw [hc] at l1 a1
        have hl : l = [] := by simpa using l1
        subst hl
        show At s r (numB (num (take s (take s r 1).2 c.toNat).1)) (take s (take s r 1).2 c.toNat).2
        rw [numB_num c _ l2 hb]
        exact a1.trans a2
theorem label_len (s : List UInt8) (r : Rd) : (label s r).1.length = 32 := by
  have := take_length s r 32
  unfold label
  simp
  omega
theorem label_inv {s : List UInt8} {r : Rd} (h : (label s r).2.err = 0) : At s r (label s r).1 (label s r).2 := by
  obtain ⟨a, l⟩ := at_take (s := s) (r := r) (n := 32) h
  have e : (label s r).1 = (take s r 32).1 := by unfold label; simp [l]
  rw [e]
  exact a
theorem flag_inv {s : List UInt8} {r : Rd} (h : (flag s r).2.err = 0) : At s r (flagW (flag s r).1) (flag s r).2 := by
  unfold flag at h ⊢
  split at h
  · exact absurd h (fail_err _ _ (by decide))
  · rename_i hg
    rw [if_neg hg]
    obtain ⟨a, l⟩ := at_take h
    match ht : (take s r 1).1, l with
    | [c], _ =>
      rw [ht] at hg a
      have hc : c.toNat ≤ 1 := by simp [gt1] at hg; omega
      have hcs : c = 0 ∨ c = 1 := by
        rcases Nat.lt_or_ge c.toNat 1 with h0 | h0
        · exact .inl (UInt8.toNat_inj.1 (by show c.toNat = 0; omega))
        · exact .inr (UInt8.toNat_inj.1 (by show c.toNat = 1; omega))
      rcases hcs with rfl | rfl
      · exact a
      · exact a
theorem done_inv {s : List UInt8} {r : Rd} (h : done s r = 0) : r.err = 0 ∧ s.length ≤ r.loc := by
  unfold done at h
  split at h
  · cases h
  · rename_i h0
    exact ⟨h, by by_cases hl : r.loc < s.length; exact absurd ⟨h, hl⟩ h0; omega⟩
theorem at_all {s xs : List UInt8} {r : Rd} (h : At s ⟨0, 0⟩ xs r) (hd : s.length ≤ r.loc) : s = xs := by
  have := h.eq
  rw [List.drop_zero, List.drop_of_length_le hd, List.append_nil] at this
  exact this
/-- An item is read. -/
def ritem (s : List UInt8) (r : Rd) : (Nat × List UInt8 × List UInt8 × Nat) × Rd :=
  let n := number s r
  let p := label s n.2
  let m := label s p.2
  let t := number s m.2
  ((n.1, p.1, m.1, t.1), t.2)
/-- A leaf is read. -/
def rleaf (s : List UInt8) (r : Rd) : (List UInt8 × List UInt8 × Nat) × Rd :=
  let l := label s r
  let v := label s l.2
  let t := number s v.2
  ((l.1, v.1, t.1), t.2)
def wItem (x : Nat × List UInt8 × List UInt8 × Nat) : List UInt8 := numB x.1 ++ x.2.1 ++ x.2.2.1 ++ numB x.2.2.2
def wLeaf (x : List UInt8 × List UInt8 × Nat) : List UInt8 := x.1 ++ x.2.1 ++ numB x.2.2
theorem ritem_inv {s : List UInt8} {r : Rd} (h : (ritem s r).2.err = 0) : At s r (wItem (ritem s r).1) (ritem s r).2 := by
  have a4 := number_inv h
  have a3 := label_inv a4.e0
  have a2 := label_inv a3.e0
  have a1 := number_inv a2.e0
  exact ((a1.trans a2).trans a3).trans a4
theorem rleaf_inv {s : List UInt8} {r : Rd} (h : (rleaf s r).2.err = 0) : At s r (wLeaf (rleaf s r).1) (rleaf s r).2 := by
  have a3 := number_inv h
  have a2 := label_inv a3.e0
  have a1 := label_inv a2.e0
  exact (a1.trans a2).trans a3
theorem flag_loc {s : List UInt8} {r : Rd} (h : r.loc ≤ s.length) : (flag s r).2.loc ≤ s.length := by
  have := take_loc s r 1 h
  unfold flag
  split
  · show (fail _ 4).loc ≤ _; rw [fail_loc]; exact this
  · exact this
/-- What a flag is spelled as is read as it. -/
theorem flag_back (p q : List UInt8) (b : Bool) : flag (p ++ (flagW b ++ q)) ⟨p.length, 0⟩ = (b, ⟨p.length + 1, 0⟩) := by
  have h := take_mid p (flagW b) q
  have hl : (flagW b).length = 1 := rfl
  rw [hl] at h
  unfold flag
  rw [h]
  cases b <;> rfl
theorem ritem_back (p q : List UInt8) (n : Nat) (l m : List UInt8) (t : Nat) (hn : n < 9223372036854775808) (ht : t < 9223372036854775808) (hl : l.length = 32) (hm : m.length = 32) :
    ritem (p ++ (numB n ++ l ++ m ++ numB t ++ q)) ⟨p.length, 0⟩ = ((n, l, m, t), ⟨p.length + (numB n ++ l ++ m ++ numB t).length, 0⟩) := by
  have e1 := number_back p (l ++ (m ++ (numB t ++ q))) n hn
  have e2 := label_back (p ++ numB n) l (m ++ (numB t ++ q)) hl
  have e3 := label_back (p ++ numB n ++ l) m (numB t ++ q) hm
  have e4 := number_back (p ++ numB n ++ l ++ m) q t ht
  simp only [List.append_assoc, List.length_append, hl, hm] at e1 e2 e3 e4
  unfold ritem
  simp only [List.append_assoc, List.length_append, hl, hm, e1, e2, e3, e4, Nat.add_assoc]
theorem rleaf_back (p q : List UInt8) (l v : List UInt8) (t : Nat) (ht : t < 9223372036854775808) (hl : l.length = 32) (hv : v.length = 32) :
    rleaf (p ++ (l ++ v ++ numB t ++ q)) ⟨p.length, 0⟩ = ((l, v, t), ⟨p.length + (l ++ v ++ numB t).length, 0⟩) := by
  have e1 := label_back p l (v ++ (numB t ++ q)) hl
  have e2 := label_back (p ++ l) v (numB t ++ q) hv
  have e3 := number_back (p ++ l ++ v) q t ht
  simp only [List.append_assoc, List.length_append, hl, hv] at e1 e2 e3
  unfold rleaf
  simp only [List.append_assoc, List.length_append, hl, hv, e1, e2, e3, Nat.add_assoc]
end D
end Go.Proofs.Ytgjmnhbkdccgpaa
