/- Plain laws: frames that are whole, cut off, or spoilt. No program in sight. -/
import Derived.Test.YtknkbioalohofaaPureAll
namespace Go.Proofs.Ytknkbioalohofaa
namespace C

theorem u8_nat (n : Nat) : (UInt8.ofNat n).toNat = n % 256 := by rw [UInt8.toNat_ofNat']
/-- A frame's head tells its length, its sum, its text. -/
theorem told_wrap (t r : List UInt8) (ht : t.length ≤ 65536) : toldN (wrap t ++ r) = t.length ∧ toldC (wrap t ++ r) = (check (head t.length ++ t)).toNat ∧ ((wrap t ++ r).getD 0 0).toNat = 94 ∧ (wrap t ++ r).take 4 = head t.length ∧ (wrap t ++ r).drop 8 = t ++ r := by
  have hc := (check (head t.length ++ t)).isLt
  unfold wrap
  generalize (check (head t.length ++ t)).toNat = x at hc
  unfold head four toldN toldC
  simp only [List.cons_append, List.nil_append, List.getD_cons_succ, List.getD_cons_zero, List.take_succ_cons, List.take_zero, List.drop_succ_cons, List.drop_zero, u8_nat]
  exact ⟨by omega, by omega, by first | rfl | decide, by first | rfl | simp, by first | rfl | simp⟩
theorem opn_wrap (t r : List UInt8) (ht : t.length ≤ 65536) : opn (wrap t ++ r) = (t, t.length + 8, 0) := by
  obtain ⟨h1, h2, h3, h4, h5⟩ := told_wrap t r ht
  have hl : (wrap t ++ r).length = t.length + 8 + r.length := by rw [List.length_append, wrap_length]
  unfold opn
  rw [if_neg (by omega), if_neg (by omega), if_neg (by omega), if_neg (by omega), h1, h4, h5, h2, List.take_left, if_pos rfl, Nat.add_comm]
theorem getD_take (s : List UInt8) (j i : Nat) (h : i < j) : (s.take j).getD i 0 = s.getD i 0 := by
  rw [List.getD_eq_getElem?_getD, List.getD_eq_getElem?_getD, List.getElem?_take, if_pos h]
/-- A frame that is cut off isn't opened. -/
theorem opn_cut (t r : List UInt8) (ht : t.length ≤ 65536) (j : Nat) (hj : j < t.length + 8) : ¬ (opn ((wrap t ++ r).take j)).2.2 = 0 := by
  obtain ⟨h1, _, h3, _, _⟩ := told_wrap t r ht
  have hl : ((wrap t ++ r).take j).length = j := by rw [List.length_take, List.length_append, wrap_length]; omega
  by_cases h8 : j < 8
  · unfold opn; rw [if_pos (by omega)]; decide
  · have e1 : toldN ((wrap t ++ r).take j) = t.length := by
      rw [← h1]
      unfold toldN
      rw [getD_take _ _ _ (by omega), getD_take _ _ _ (by omega), getD_take _ _ _ (by omega)]
    unfold opn
    rw [if_neg (by omega), if_neg (by rw [getD_take _ _ _ (by omega)]; omega), if_neg (by omega), if_pos (by omega)]
    decide
/-- Frames one behind the other; how many bytes the first ones have. -/
def frames (ts : List (List UInt8)) : List UInt8 := (ts.map wrap).flatten
def fl (ts : List (List UInt8)) (k : Nat) : Nat := (frames (ts.take k)).length
theorem frames_append (a b : List (List UInt8)) : frames (a ++ b) = frames a ++ frames b := by unfold frames; simp
theorem frames_cons (t : List UInt8) (b : List (List UInt8)) : frames (t :: b) = wrap t ++ frames b := by unfold frames; simp
theorem all_frames : ∀ (ts : List (List UInt8)) (r : List UInt8), (∀ t ∈ ts, t.length ≤ 65536) → all (frames ts ++ r) = (ts ++ (all r).1, (frames ts).length + (all r).2)
  | [], r, _ => by simp [frames]
  | t :: ts, r, h => by
    have ht := h t (List.mem_cons_self ..)
    have ho := opn_wrap t (frames ts ++ r) ht
    rw [frames_cons, List.append_assoc]
    have h0 : (opn (wrap t ++ (frames ts ++ r))).2.2 = 0 := by rw [ho]
    rw [all_some h0, ho]
    have hd : (wrap t ++ (frames ts ++ r)).drop (t.length + 8) = frames ts ++ r := by
      rw [← wrap_length]; exact List.drop_left
    rw [hd, all_frames ts r fun x hx => h x (List.mem_cons_of_mem _ hx)]
    simp [wrap_length]; omega
/-- Of frames that are cut off just the whole ones are found. -/
theorem all_cut (ts : List (List UInt8)) (h : ∀ t ∈ ts, t.length ≤ 65536) (cut k : Nat) (hk : k ≤ ts.length) (h1 : fl ts k ≤ cut) (h2 : k < ts.length → cut < fl ts (k + 1)) : all ((frames ts).take cut) = (ts.take k, fl ts k) := by
  have e : frames ts = frames (ts.take k) ++ frames (ts.drop k) := by rw [← frames_append, List.take_append_drop]
  have e2 : (frames ts).take cut = frames (ts.take k) ++ (frames (ts.drop k)).take (cut - fl ts k) := by
    rw [e, List.take_append]
    unfold fl at h1 ⊢
    rw [List.take_of_length_le h1]
  have hr : all ((frames (ts.drop k)).take (cut - fl ts k)) = ([], 0) := by
    apply all_none
    by_cases hlt : k < ts.length
    · have hd : ts.drop k = ts[k] :: ts.drop (k + 1) := List.drop_eq_getElem_cons hlt
      rw [hd, frames_cons]
      have hfl : fl ts (k + 1) = fl ts k + (ts[k].length + 8) := by
        unfold fl
        rw [List.take_succ_eq_append_getElem hlt, frames_append, List.length_append]
        simp [frames, wrap_length]
      exact opn_cut _ _ (h _ (List.getElem_mem hlt)) _ (by have := h2 hlt; omega)
    · rw [List.drop_of_length_le (by omega)]
      have : (frames []).take (cut - fl ts k) = [] := by simp [frames]
      rw [this]
      exact opn_nil
  rw [e2, all_frames _ _ (fun t ht => h t (List.mem_of_mem_take ht)), hr]
  unfold fl; simp
theorem fl_zero (ts : List (List UInt8)) : fl ts 0 = 0 := by simp [fl, frames]
theorem fl_all (ts : List (List UInt8)) : fl ts ts.length = (frames ts).length := by unfold fl; rw [List.take_length]
/-- Where the frames end, from nought on. -/
def endsL (ts : List (List UInt8)) : List Nat := (List.range (ts.length + 1)).map (fl ts)
theorem endsL_length (ts : List (List UInt8)) : (endsL ts).length = ts.length + 1 := by simp [endsL]
theorem endsL_get (ts : List (List UInt8)) (k : Nat) (h : k ≤ ts.length) : (endsL ts)[k]? = some (fl ts k) := by
  have : k < ts.length + 1 := by omega
  simp [endsL, this]
theorem endsL_snoc (ts : List (List UInt8)) (t : List UInt8) : endsL (ts ++ [t]) = endsL ts ++ [(frames (ts ++ [t])).length] := by
  unfold endsL
  rw [List.length_append, List.length_singleton, List.range_succ, List.map_append]
  congr 1
  · apply List.map_congr_left
    intro k hk
    have : k ≤ ts.length := by have := List.mem_range.1 hk; omega
    unfold fl
    rw [List.take_append_of_le_length this]
  · simp only [List.map_cons, List.map_nil]
    congr 1
    have := fl_all (ts ++ [t])
    rw [List.length_append, List.length_singleton] at this
    exact this
end C
end Go.Proofs.Ytknkbioalohofaa
