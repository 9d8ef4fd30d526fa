/- Plain laws: a reader of bytes: what it takes, and when it is at fault. No program in sight. -/
import Derived.Test.YtgjmnhbkdccgpaaPureCode
namespace Go.Proofs.Ytgjmnhbkdccgpaa
namespace D

/-- A reader's state: where it is, and its fault. -/
structure Rd where
  loc : Nat
  err : Nat
/-- So many bytes are taken. -/
def take (s : List UInt8) (r : Rd) (n : Nat) : List UInt8 × Rd :=
  if r.err ≠ 0 then ([], r) else if s.length - r.loc < n then ([], ⟨r.loc, 5⟩) else ((s.drop r.loc).take n, ⟨r.loc + n, 0⟩)
def fail (r : Rd) (e : Nat) : Rd := if r.err = 0 then ⟨r.loc, e⟩ else r
theorem take_loc (s : List UInt8) (r : Rd) (n : Nat) (h : r.loc ≤ s.length) : (take s r n).2.loc ≤ s.length := by
  unfold take
  split
  · exact h
  · split
    · exact h
    · show r.loc + n ≤ s.length; omega
theorem take_length (s : List UInt8) (r : Rd) (n : Nat) : (take s r n).1.length ≤ n := by
  unfold take
  split
  · simp
  · split
    · simp
    · simp; omega
theorem fail_loc (r : Rd) (e : Nat) : (fail r e).loc = r.loc := by unfold fail; split <;> rfl
/-- Is the first byte one that a number of so many bytes may not have? -/
def bad (size : Nat) (t : List UInt8) : Bool := match t with
  | [] => false
  | c :: _ => c.toNat == 0 || size == 8 && decide (127 < c.toNat)
/-- Bytes as a number, the highest first. -/
def num (t : List UInt8) : Nat := t.foldl (fun n c => n * 256 + c.toNat) 0
/-- A number is read: its size, and its bytes. -/
def number (s : List UInt8) (r : Rd) : Nat × Rd :=
  match (take s r 1).1 with
  | [] => (0, (take s r 1).2)
  | c :: _ =>
    if 8 < c.toNat then (0, fail (take s r 1).2 4)
    else
      if bad c.toNat (take s (take s r 1).2 c.toNat).1 then (0, fail (take s (take s r 1).2 c.toNat).2 4)
      else (num (take s (take s r 1).2 c.toNat).1, (take s (take s r 1).2 c.toNat).2)
/-- A label is read. -/
def label (s : List UInt8) (r : Rd) : List UInt8 × Rd :=
  let t := (take s r 32).1
  (t ++ (List.replicate 32 0).drop t.length, (take s r 32).2)
/-- The fault at the end. -/
def done (s : List UInt8) (r : Rd) : Nat := if r.err = 0 ∧ r.loc < s.length then 3 else r.err
section
variable {s : List UInt8} {r : Rd} {c : UInt8} {l : List UInt8}
theorem number_nil (h : (take s r 1).1 = []) : number s r = (0, (take s r 1).2) := by unfold number; rw [h]
theorem number_big (h : (take s r 1).1 = c :: l) (h8 : 8 < c.toNat) : number s r = (0, fail (take s r 1).2 4) := by
  unfold number; rw [h]; show (if _ then _ else _) = _; rw [if_pos h8]
theorem number_bad (h : (take s r 1).1 = c :: l) (h8 : ¬ 8 < c.toNat) (hb : bad c.toNat (take s (take s r 1).2 c.toNat).1 = true) : number s r = (0, fail (take s (take s r 1).2 c.toNat).2 4) := by
  unfold number; rw [h]; show (if _ then _ else if _ then _ else _) = _; rw [if_neg h8, if_pos hb]
theorem number_ok (h : (take s r 1).1 = c :: l) (h8 : ¬ 8 < c.toNat) (hb : bad c.toNat (take s (take s r 1).2 c.toNat).1 = false) : number s r = (num (take s (take s r 1).2 c.toNat).1, (take s (take s r 1).2 c.toNat).2) := by
  unfold number; rw [h]; show (if _ then _ else if _ then _ else _) = _; rw [if_neg h8, if_neg (by simp [hb])]
theorem number_loc (h : r.loc ≤ s.length) : (number s r).2.loc ≤ s.length := by
  have h1 := take_loc s r 1 h
  cases hc : (take s r 1).1 with
  | nil => rw [number_nil hc]; exact h1
  | cons c l =>
    by_cases h8 : 8 < c.toNat
    · rw [number_big hc h8]; show (fail _ 4).loc ≤ _; rw [fail_loc]; exact h1
    · have h2 := take_loc s (take s r 1).2 c.toNat h1
      cases hb : bad c.toNat (take s (take s r 1).2 c.toNat).1 with
      | true => rw [number_bad hc h8 hb]; show (fail _ 4).loc ≤ _; rw [fail_loc]; exact h2
      | false => rw [number_ok hc h8 hb]; exact h2
end
theorem foldl_num : ∀ (l : List UInt8) (a : Nat), l.foldl (fun n c => n * 256 + c.toNat) a = a * 256 ^ l.length + num l
  | [], a => by simp [num]
  | b :: l, a => by
    rw [num, List.foldl_cons, List.foldl_cons, foldl_num l, foldl_num l, List.length_cons, Nat.pow_succ, Nat.add_mul, Nat.zero_mul, Nat.zero_add, Nat.add_assoc, Nat.mul_assoc, Nat.mul_comm 256 (256 ^ l.length)]
theorem num_cons (b : UInt8) (l : List UInt8) : num (b :: l) = b.toNat * 256 ^ l.length + num l := by
  rw [num, List.foldl_cons, foldl_num, Nat.zero_mul, Nat.zero_add]
theorem num_snoc (l : List UInt8) (b : UInt8) : num (l ++ [b]) = num l * 256 + b.toNat := by
  rw [num, List.foldl_append]; rfl
theorem num_lt : ∀ l : List UInt8, num l < 256 ^ l.length
  | [] => by simp [num]
  | b :: l => by
    have := num_lt l
    have hb := b.toNat_lt
    rw [num_cons, List.length_cons, Nat.pow_succ]
    have h1 : b.toNat * 256 ^ l.length + 256 ^ l.length ≤ 256 ^ l.length * 256 := by
      rw [← Nat.succ_mul, Nat.mul_comm]; exact Nat.mul_le_mul_left _ hb
    omega
/-- What is read of a number before its last byte leaves room. -/
theorem num_take_lt (t : List UInt8) (size k : Nat) (ht : t.length ≤ size) (h8 : size ≤ 8) (hb : bad size t = false) (hk : k < t.length) : num (t.take k) < 36028797018963968 := by
  have h1 := num_lt (t.take k)
  rw [List.length_take, Nat.min_eq_left (by omega)] at h1
  by_cases h7 : k ≤ 6
  · have : 256 ^ k ≤ 256 ^ 6 := Nat.pow_le_pow_right (by omega) h7
    omega
  · obtain rfl : k = 7 := by omega
    obtain rfl : size = 8 := by omega
    match t, hk with
    | c :: t, hk =>
      have hc : c.toNat ≤ 127 := by
        unfold bad at hb
        simp at hb
        omega
      rw [List.take_succ_cons, num_cons]
      have h2 := num_lt (t.take 6)
      have hl : (t.take 6).length = 6 := by rw [List.length_take]; simp at hk; omega
      rw [hl] at h2 ⊢
      omega
theorem num_take_snoc (t : List UInt8) (k : Nat) (hk : k < t.length) : num (t.take (k + 1)) = num (t.take k) * 256 + (t.getD k 0).toNat := by
  rw [List.take_succ_eq_append_getElem hk, num_snoc, List.getD_eq_getElem?_getD, List.getElem?_eq_getElem hk]; rfl
end D
end Go.Proofs.Ytgjmnhbkdccgpaa
