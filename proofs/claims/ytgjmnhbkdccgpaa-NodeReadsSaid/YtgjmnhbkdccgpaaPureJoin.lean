/- Plain laws: lists of texts, each behind its length, behind a tag. -/
import Derived.Lib.Bytealg
namespace Go.Proofs.Ytgjmnhbkdccgpaa
namespace J
def len4 (n : Nat) : List UInt8 := [UInt8.ofNat (n / 16777216), UInt8.ofNat (n / 65536), UInt8.ofNat (n / 256), UInt8.ofNat n]
def one (t : List UInt8) : List UInt8 := len4 t.length ++ t
def joins (ts : List (List UInt8)) : List UInt8 := ts.flatMap one
/-- A tag and texts, each behind its length. -/
def joinB (tag : UInt8) (ts : List (List UInt8)) : List UInt8 := tag :: joins ts
theorem len4_length (n : Nat) : (len4 n).length = 4 := rfl
theorem one_length (t : List UInt8) : (one t).length = t.length + 4 := by simp [one, len4_length]; omega
theorem joins_snoc (ts : List (List UInt8)) (k : Nat) (h : k < ts.length) : joins (ts.take (k + 1)) = joins (ts.take k) ++ (len4 (ts.getD k []).length ++ ts.getD k []) := by
  unfold joins
  rw [List.take_succ_eq_append_getElem h, List.flatMap_append]
  simp [List.getD_eq_getElem?_getD, List.getElem?_eq_getElem h, one]
theorem joinB_snoc (tag : UInt8) (ts : List (List UInt8)) (k : Nat) (h : k < ts.length) : joinB tag (ts.take (k + 1)) = joinB tag (ts.take k) ++ len4 (ts.getD k []).length ++ ts.getD k [] := by
  unfold joinB; rw [joins_snoc ts k h]; simp
theorem len4_getD (n j : Nat) (h : j < 4) : (len4 n).getD j 0 = UInt8.ofNat (n / 256 ^ (3 - j)) := by
  match j, h with
  | 0, _ => rfl
  | 1, _ => rfl
  | 2, _ => rfl
  | 3, _ => simp [len4]
theorem len4_take (n j : Nat) (h : j < 4) : (len4 n).take (j + 1) = (len4 n).take j ++ [UInt8.ofNat (n / 256 ^ (3 - j))] := by
  rw [List.take_succ_eq_append_getElem (by rw [len4_length]; exact h), ← len4_getD n j h]
  simp [List.getD_eq_getElem?_getD, List.getElem?_eq_getElem (show j < (len4 n).length by rw [len4_length]; exact h)]
theorem joins_length_le : ∀ (ts : List (List UInt8)) (m : Nat), (∀ t ∈ ts, t.length ≤ m) → (joins ts).length ≤ ts.length * (m + 4)
  | [], _, _ => by simp [joins]
  | t :: ts, m, h => by
    have h1 := joins_length_le ts m fun x hx => h x (List.mem_cons_of_mem _ hx)
    have h2 := h t (List.mem_cons_self ..)
    have e : joins (t :: ts) = one t ++ joins ts := by simp [joins]
    rw [e, List.length_append, one_length, List.length_cons, Nat.add_mul]
    omega
theorem joins_take_le (ts : List (List UInt8)) (k : Nat) : (joins (ts.take k)).length ≤ (joins ts).length := by
  have e : joins ts = joins (ts.take k) ++ joins (ts.drop k) := by
    unfold joins; rw [← List.flatMap_append, List.take_append_drop]
  rw [e, List.length_append]; omega
theorem joins_ge : ∀ (ts : List (List UInt8)), ts.length ≤ (joins ts).length
  | [] => by simp [joins]
  | t :: ts => by
    have h1 := joins_ge ts
    have e : joins (t :: ts) = one t ++ joins ts := by simp [joins]
    rw [e, List.length_append, one_length, List.length_cons]
    omega
/-- Lists of texts that are joined are told apart. -/
theorem one_inj {s t a b : List UInt8} (hs : s.length < 4294967296) (ht : t.length < 4294967296) (h : one s ++ a = one t ++ b) : s = t ∧ a = b := by
  unfold one len4 at h
  simp only [List.cons_append, List.nil_append, List.cons.injEq] at h
  obtain ⟨h1, h2, h3, h4, h5⟩ := h
  have e1 := congrArg UInt8.toNat h1
  have e2 := congrArg UInt8.toNat h2
  have e3 := congrArg UInt8.toNat h3
  have e4 := congrArg UInt8.toNat h4
  simp only [UInt8.toNat_ofNat'] at e1 e2 e3 e4
  have hl : s.length = t.length := by omega
  exact List.append_inj h5 hl
theorem joins_inj : ∀ (a b : List (List UInt8)), (∀ t ∈ a, t.length < 4294967296) → (∀ t ∈ b, t.length < 4294967296) → joins a = joins b → a = b
  | [], [], _, _, _ => rfl
  | [], t :: ts, _, _, h => by simp [joins, one, len4] at h
  | t :: ts, [], _, _, h => by simp [joins, one, len4] at h
  | s :: a, t :: b, ha, hb, h => by
    have h' : one s ++ joins a = one t ++ joins b := by simpa [joins] using h
    obtain ⟨e1, e2⟩ := one_inj (ha s (List.mem_cons_self ..)) (hb t (List.mem_cons_self ..)) h'
    rw [e1, joins_inj a b (fun x hx => ha x (List.mem_cons_of_mem _ hx)) (fun x hx => hb x (List.mem_cons_of_mem _ hx)) e2]
theorem joinB_inj {p q : UInt8} {a b : List (List UInt8)} (ha : ∀ t ∈ a, t.length < 4294967296) (hb : ∀ t ∈ b, t.length < 4294967296) : joinB p a = joinB q b ↔ p = q ∧ a = b := by
  constructor
  · intro h
    unfold joinB at h
    injection h with h1 h2
    exact ⟨h1, joins_inj a b ha hb h2⟩
  · rintro ⟨rfl, rfl⟩; rfl
end J
end Go.Proofs.Ytgjmnhbkdccgpaa
