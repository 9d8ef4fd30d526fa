/- Plain laws: a frame of which up to four bytes one behind the other are others, all in the sum or all in the rest, isn't opened as one of the same length. No program in sight. -/
import Derived.Test.YtknkbioalohofaaPureCuts
namespace Go.Proofs.Ytknkbioalohofaa
namespace C

theorem opn_sum {s : List UInt8} (h : (opn s).2.2 = 0) : (opn s).2.1 = 8 + toldN s ∧ (check (s.take 4 ++ (s.drop 8).take (toldN s))).toNat = toldC s ∧ 8 + toldN s ≤ s.length := by
  unfold opn at h ⊢
  by_cases h1 : s.length < 8
  · rw [if_pos h1] at h; cases h
  · rw [if_neg h1] at h ⊢
    by_cases h2 : (s.getD 0 0).toNat ≠ 94
    · rw [if_pos h2] at h; cases h
    · rw [if_neg h2] at h ⊢
      by_cases h3 : 65536 < toldN s
      · rw [if_pos h3] at h; cases h
      · rw [if_neg h3] at h ⊢
        by_cases h4 : s.length < 8 + toldN s
        · rw [if_pos h4] at h; cases h
        · rw [if_neg h4] at h ⊢
          by_cases h5 : (check (s.take 4 ++ (s.drop 8).take (toldN s))).toNat = toldC s
          · rw [if_pos h5]; exact ⟨rfl, h5, by omega⟩
          · rw [if_neg h5] at h; cases h
theorem getD_app (a b : List UInt8) (i : Nat) : (a ++ b).getD i 0 = if i < a.length then a.getD i 0 else b.getD (i - a.length) 0 := by
  rw [List.getD_eq_getElem?_getD, List.getElem?_append]
  split
  · rw [List.getD_eq_getElem?_getD]
  · rw [List.getD_eq_getElem?_getD]
theorem getD_agree (p u v q : List UInt8) (h : u.length = v.length) (i : Nat) (hi : i < p.length ∨ p.length + u.length ≤ i) : (p ++ u ++ q).getD i 0 = (p ++ v ++ q).getD i 0 := by
  rw [List.append_assoc, List.append_assoc, getD_app p (u ++ q), getD_app p (v ++ q)]
  by_cases h1 : i < p.length
  · rw [if_pos h1, if_pos h1]
  · rw [if_neg h1, if_neg h1, getD_app u q, getD_app v q, if_neg (by omega), if_neg (by omega), h]
theorem toldC_agree {a b : List UInt8} (h : ∀ i, 4 ≤ i → i < 8 → a.getD i 0 = b.getD i 0) : toldC a = toldC b := by
  unfold toldC; rw [h 4 (by omega) (by omega), h 5 (by omega) (by omega), h 6 (by omega) (by omega), h 7 (by omega) (by omega)]
theorem toldC_bytes {a b : List UInt8} (h : toldC a = toldC b) : ∀ i, 4 ≤ i → i < 8 → a.getD i 0 = b.getD i 0 := by
  unfold toldC at h
  have a4 := (a.getD 4 0).toNat_lt
  have a5 := (a.getD 5 0).toNat_lt
  have a6 := (a.getD 6 0).toNat_lt
  have a7 := (a.getD 7 0).toNat_lt
  have b4 := (b.getD 4 0).toNat_lt
  have b5 := (b.getD 5 0).toNat_lt
  have b6 := (b.getD 6 0).toNat_lt
  have b7 := (b.getD 7 0).toNat_lt
  intro i h1 h2
  apply UInt8.toNat_inj.1
  have : i = 4 ∨ i = 5 ∨ i = 6 ∨ i = 7 := by omega
  rcases this with rfl | rfl | rfl | rfl <;> omega
theorem spoilt (t p u v q : List UInt8) (ht : t.length ≤ 65536) (hf : wrap t = p ++ u ++ q) (hl : u.length = v.length) (h4 : u.length ≤ 4) (hne : u ≠ v)
    (hpos : p.length + u.length ≤ 4 ∨ (4 ≤ p.length ∧ p.length + u.length ≤ 8) ∨ 8 ≤ p.length) : ¬ ((opn (p ++ v ++ q)).2.2 = 0 ∧ (opn (p ++ v ++ q)).2.1 = (wrap t).length) := by
  rintro ⟨h0, hn⟩
  obtain ⟨g1, g2, g3⟩ := opn_sum h0
  obtain ⟨f1, f2, _, f4, f5⟩ := told_wrap t [] ht
  rw [List.append_nil] at f1 f2 f4 f5
  rw [List.append_nil] at f5
  have hwl := wrap_length t
  have hbl : (p ++ v ++ q).length = (wrap t).length := by rw [hf]; simp [hl]
  have hN : toldN (p ++ v ++ q) = t.length := by omega
  have hd : ((p ++ v ++ q).drop 8).length = t.length := by rw [List.length_drop]; omega
  have e0 : ((p ++ v ++ q).drop 8).take t.length = (p ++ v ++ q).drop 8 := List.take_of_length_le (by omega)
  rw [hN, e0] at g2
  have f6 : (check ((wrap t).take 4 ++ (wrap t).drop 8)).toNat = toldC (wrap t) := by rw [f4, f5, f2]
  rw [hf] at f6
  rcases hpos with h | h | h
  · have hc : toldC (p ++ u ++ q) = toldC (p ++ v ++ q) := toldC_agree fun i h1 _ => getD_agree p u v q hl i (.inr (by omega))
    have e1 : ∀ x : List UInt8, x.length = u.length → (p ++ x ++ q).take 4 = p ++ x ++ q.take (4 - p.length - u.length) := by
      intro x hx
      rw [List.take_append, List.take_of_length_le (by simp; omega)]
      simp [hx, Nat.sub_sub]
    have e2 : ∀ x : List UInt8, x.length = u.length → (p ++ x ++ q).drop 8 = q.drop (8 - p.length - u.length) := by
      intro x hx
      rw [List.drop_append, List.drop_of_length_le (by simp; omega)]
      simp [hx, Nat.sub_sub]
    rw [e1 u rfl, e2 u rfl, hc, List.append_assoc] at f6
    rw [e1 v hl.symm, e2 v hl.symm, List.append_assoc] at g2
    exact burst p u v _ hl h4 hne (BitVec.eq_of_toNat_eq (by rw [f6, g2]))
  · have e1 : ∀ x : List UInt8, x.length = u.length → (p ++ x ++ q).take 4 = p.take 4 := by
      intro x _
      rw [List.append_assoc, List.take_append_of_le_length (by omega)]
    have e2 : ∀ x : List UInt8, x.length = u.length → (p ++ x ++ q).drop 8 = q.drop (8 - p.length - u.length) := by
      intro x hx
      rw [List.drop_append, List.drop_of_length_le (by simp; omega)]
      simp [hx, Nat.sub_sub]
    rw [e1 u rfl, e2 u rfl] at f6
    rw [e1 v hl.symm, e2 v hl.symm, f6] at g2
    have hb := toldC_bytes g2
    apply hne
    apply List.ext_getElem hl
    intro i h1 h2
    have := hb (p.length + i) (by omega) (by omega)
    rw [List.append_assoc, List.append_assoc, getD_app p (u ++ q), getD_app p (v ++ q), if_neg (by omega), if_neg (by omega), Nat.add_sub_cancel_left, getD_app u q, getD_app v q, if_pos h1, if_pos h2] at this
    rw [List.getD_eq_getElem?_getD, List.getD_eq_getElem?_getD, List.getElem?_eq_getElem h1, List.getElem?_eq_getElem h2] at this
    simpa using this
  · have hc : toldC (p ++ u ++ q) = toldC (p ++ v ++ q) := toldC_agree fun i _ h2 => getD_agree p u v q hl i (.inl (by omega))
    have e1 : ∀ x : List UInt8, (p ++ x ++ q).take 4 = p.take 4 := by
      intro x
      rw [List.append_assoc, List.take_append_of_le_length (by omega)]
    have e2 : ∀ x : List UInt8, (p ++ x ++ q).drop 8 = p.drop 8 ++ x ++ q := by
      intro x
      rw [List.append_assoc, List.drop_append_of_le_length (by omega), List.append_assoc]
    rw [e1 u, e2 u, hc, ← List.append_assoc, ← List.append_assoc] at f6
    rw [e1 v, e2 v, ← List.append_assoc, ← List.append_assoc] at g2
    exact burst (p.take 4 ++ p.drop 8) u v q hl h4 hne (BitVec.eq_of_toNat_eq (by rw [f6, g2]))
/-- A byte of a word, the lowest first. -/
def wb (turn i : Nat) : UInt8 := UInt8.ofNat (turn / 256 ^ i)
/-- A frame of which r bytes from a place on are turned. -/
def spl (f : List UInt8) (a turn r : Nat) : List UInt8 := f.take a ++ (List.range r).map (fun i => f.getD (a + i) 0 ^^^ wb turn i) ++ f.drop (a + r)
theorem spl_zero (f : List UInt8) (a turn : Nat) : spl f a turn 0 = f := by simp [spl]
theorem spl_length (f : List UInt8) (a turn r : Nat) (h : a + r ≤ f.length) : (spl f a turn r).length = f.length := by simp [spl]; omega
theorem spl_get (f : List UInt8) (a turn r : Nat) (h : a + r < f.length) : (spl f a turn r).getD (a + r) 0 = f.getD (a + r) 0 := by
  unfold spl
  have hl : (f.take a ++ (List.range r).map (fun i => f.getD (a + i) 0 ^^^ wb turn i)).length = a + r := by simp; omega
  rw [getD_app, if_neg (by omega), hl, Nat.sub_self, List.getD_eq_getElem?_getD, List.getElem?_drop, List.getD_eq_getElem?_getD, Nat.add_zero]
theorem spl_set (f : List UInt8) (a turn r : Nat) (h : a + r < f.length) : (spl f a turn r).set (a + r) (f.getD (a + r) 0 ^^^ wb turn r) = spl f a turn (r + 1) := by
  unfold spl
  have hl : (f.take a ++ (List.range r).map (fun i => f.getD (a + i) 0 ^^^ wb turn i)).length = a + r := by simp; omega
  rw [List.set_append_right _ _ (by omega), hl, Nat.sub_self, List.drop_eq_getElem_cons h, List.set_cons_zero, List.range_succ, List.map_append, List.map_cons, List.map_nil]
  simp [Nat.add_assoc]
/-- Does a place lie in the sum? -/
def inSum (i : Nat) : Bool := decide (4 ≤ i) && decide (i < 8)
/-- So spoilt, a frame isn't opened as one of the same length. -/
theorem spl_spoilt (t : List UInt8) (ht : t.length ≤ 65536) (a turn r : Nat) (hr : r ≤ 4) (ha : a + r ≤ (wrap t).length) (hin : ∀ i, i < r → inSum (a + i) = inSum a) (hne : spl (wrap t) a turn r ≠ wrap t) :
    ¬ ((opn (spl (wrap t) a turn r)).2.2 = 0 ∧ (opn (spl (wrap t) a turn r)).2.1 = (wrap t).length) := by
  have hf : wrap t = (wrap t).take a ++ ((wrap t).drop a).take r ++ (wrap t).drop (a + r) := by
    rw [List.append_assoc, ← List.drop_drop, List.take_append_drop, List.take_append_drop]
  have hu : (((wrap t).drop a).take r).length = r := by simp; omega
  have hp : ((wrap t).take a).length = a := by simp; omega
  refine spoilt t _ _ _ _ ht hf (by rw [hu]; simp) (by omega) (fun e => hne ?_) ?_
  · unfold spl
    rw [← e]
    exact hf.symm
  · rw [hp, hu]
    by_cases h0 : r = 0
    · subst h0
      exfalso; exact hne (spl_zero _ _ _)
    · unfold inSum at hin
      by_cases h1 : a < 4
      · by_cases h2 : a + r ≤ 4
        · exact .inl h2
        · have := hin (4 - a) (by omega)
          have e : a + (4 - a) = 4 := by omega
          rw [e] at this
          simp [show ¬ 4 ≤ a from by omega] at this
      · by_cases h2 : a < 8
        · by_cases h3 : a + r ≤ 8
          · exact .inr (.inl ⟨by omega, h3⟩)
          · have := hin (8 - a) (by omega)
            have e : a + (8 - a) = 8 := by omega
            rw [e] at this
            simp [show 4 ≤ a from by omega, h2] at this
        · exact .inr (.inr (by omega))
end C
end Go.Proofs.Ytknkbioalohofaa
