/- Plain laws: runes of joined texts. -/
import Derived.Test.YtpinackeelncfaaPureName
namespace Go.Proofs.Ytpinackeelncfaa
open Go.RowKit
namespace N
theorem rnc_app (b0 b1 b2 b3 c1 c2 c3 n L : Nat) (hL : n ≤ L) (h1 : 1 < n → c1 = b1) (h2 : 2 < n → c2 = b2) (h3 : 3 < n → c3 = b3) (h : (rnc b0 b1 b2 b3 n).1 ≠ 65533) : rnc b0 c1 c2 c3 L = rnc b0 b1 b2 b3 n := by
  unfold rnc at *
  split at h
  · rename_i k; rw [if_pos k, if_pos k]
  · rename_i k0
    rw [if_neg k0, if_neg k0]
    split at h
    · rename_i k1
      rw [if_pos k1, if_pos k1]
      split at h
      · rename_i k2
        rw [if_pos k2]
        obtain rfl := h1 k2.1
        rw [if_pos ⟨by omega, k2.2⟩]
      · exact absurd rfl h
    · rename_i k1
      rw [if_neg k1, if_neg k1]
      split at h
      · rename_i k2
        rw [if_pos k2, if_pos k2]
        split at h
        · rename_i k3
          rw [if_pos k3]
          obtain rfl := h1 k3.1
          obtain rfl := h2 k3.2.2.2.1
          rw [if_pos ⟨by omega, k3.2.1, k3.2.2.1, by omega, k3.2.2.2.2⟩]
        · exact absurd rfl h
      · rename_i k2
        rw [if_neg k2, if_neg k2]
        split at h
        · rename_i k3
          rw [if_pos k3, if_pos k3]
          split at h
          · rename_i k4
            rw [if_pos k4]
            obtain rfl := h1 k4.1
            obtain rfl := h2 k4.2.2.2.1
            obtain rfl := h3 k4.2.2.2.2.2.2.1
            rw [if_pos ⟨by omega, k4.2.1, k4.2.2.1, by omega, k4.2.2.2.2.1, k4.2.2.2.2.2.1, by omega, k4.2.2.2.2.2.2.2⟩]
          · exact absurd rfl h
        · exact absurd rfl h
theorem rn_app (a t : List UInt8) (ha : 0 < a.length) (h : (rn a).1 ≠ 65533) : rn (a ++ t) = rn a := by
  have e : ∀ k, k < a.length → (a ++ t).getD k 0 = a.getD k 0 := fun k hk => by
    rw [List.getD_eq_getElem?_getD, List.getElem?_append_left hk, List.getD_eq_getElem?_getD]
  unfold rn at *
  rw [e 0 ha]
  exact rnc_app _ _ _ _ _ _ _ _ _ (by rw [List.length_append]; omega) (fun k => by rw [e 1 k]) (fun k => by rw [e 2 k]) (fun k => by rw [e 3 k]) h
theorem rest_codes : ∀ (m : Nat) (s : List UInt8) (p : Nat), s.length ≤ m + p → (rest s p).map (·.1) = (rest (s.drop p) 0).map (·.1)
  | m, s, p, hm => by
    by_cases hlt : p < s.length
    · have hl : (s.drop p).length = s.length - p := List.length_drop ..
      have h0 : 0 < (s.drop p).length := by omega
      rw [rest_next s p hlt, rest_next (s.drop p) 0 h0, List.drop_zero, List.map_cons, List.map_cons]
      have hz := rn_size (s.drop p)
      match m, hm with
      | 0, hm => omega
      | m + 1, hm =>
        rw [rest_codes m s _ (by omega), rest_codes m (s.drop p) _ (by omega), List.drop_drop, Nat.zero_add]
    · rw [rest_end s p hlt, rest_end (s.drop p) 0 (by rw [List.length_drop]; omega)]
/-- The runes' numbers. -/
def cds (s : List UInt8) : List Nat := (runes s).map (·.1)
theorem cds_nil : cds [] = [] := rfl
theorem cds_next (l : List UInt8) (h : 0 < l.length) : cds l = (rn l).1 :: cds (l.drop (rn l).2) := by
  show (rest l 0).map (·.1) = _ :: (rest (l.drop (rn l).2) 0).map (·.1)
  rw [rest_next l 0 h, List.map_cons, List.drop_zero, rest_codes l.length l _ (by omega), Nat.zero_add]
theorem cds_app : ∀ (m : Nat) (a b : List UInt8), a.length ≤ m → (∀ c ∈ cds a, c ≠ 65533) → cds (a ++ b) = cds a ++ cds b
  | m, a, b, hm, h => by
    by_cases ha : 0 < a.length
    · match m, hm with
      | 0, hm => omega
      | m + 1, hm =>
        have hn := cds_next a ha
        rw [hn] at h
        have hz := rn_size a
        have hr := rn_app a b ha (h _ (List.mem_cons_self ..))
        rw [cds_next (a ++ b) (by rw [List.length_append]; omega), hr, hn, List.drop_append_of_le_length (by omega), cds_app m (a.drop (rn a).2) b (by rw [List.length_drop]; omega) (fun c hc => h c (List.mem_cons_of_mem _ hc))]
        rfl
    · obtain rfl : a = [] := List.eq_nil_of_length_eq_zero (by omega)
      rfl
end N
end Go.Proofs.Ytpinackeelncfaa
