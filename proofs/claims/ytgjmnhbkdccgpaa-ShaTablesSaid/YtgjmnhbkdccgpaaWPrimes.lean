/- The walk of Primes. -/
import Derived.Test.YtgjmnhbkdccgpaaWTab
namespace Go.Proofs.Ytgjmnhbkdccgpaa
open Go.RowKit

namespace T
theorem primes_at (k : Nat) (h : k ≤ 398) : primesTo k = plist.filter (fun p => decide (p < k + 2)) := primes_ ⟨k, by omega⟩
theorem primes_full (k : Nat) (h : k ≤ 398) (h2 : 64 ≤ (primesTo k).length) : primesTo k = plist := by
  rw [primes_at k h] at h2 ⊢
  exact (List.filter_sublist).eq_of_length_le (by simpa [plist] using h2)
theorem primes_end : primesTo 398 = plist := by rw [primes_at 398 (by omega)]; decide
theorem primes_len (k : Nat) (h : k ≤ 398) : (primesTo k).length ≤ 64 := by
  rw [primes_at k h]
  exact Nat.le_trans (List.length_filter_le ..) (by decide)
theorem primes_yes (k : Nat) (h : (primesTo k).length < 64) (hp : prime (k + 2) = true) : primesTo (k + 1) = primesTo k ++ [k + 2] := by
  rw [primesTo, if_pos h, if_pos hp]
theorem primes_no (k : Nat) (h : (primesTo k).length < 64) (hp : prime (k + 2) = false) : primesTo (k + 1) = primesTo k := by
  rw [primesTo, if_pos h, hp]; rfl
end T
set_option maxRecDepth 100000 in
set_option maxHeartbeats 4000000 in
theorem primes_any (w : World) :
    Calls Try.prog 63 #[.int .i64 64] w fun e w' => ∃ v, e = .returned v ∧ Row1 w' 93 v (T.plist.map u64V) ∧ Below w.heap.size w w' := by
  have hr0 := Row1.build w 93 [] #[] 0 rfl rfl (by omega)
  have hb0 := below_alloc1 w (.cells #[] 93)
  go_enter Try.func63, Try.ntmps63
  go_wp2
  go_loopw [3, 4] (fun v i wr => ∃ (k p : Nat) (vl : Value), vl = v ∧ p = k + 2 ∧ p ≤ 400 ∧ i = .int .u64 (p : Int) ∧ Row1 wr 93 vl ((T.primesTo k).map u64V) ∧ (vl.ownBlock = none ∨ ∃ k, w.heap.size ≤ k ∧ vl.ownBlock = some k) ∧ Below w.heap.size w wr) (fun _ i _ => 400 - (intOf i).toNat)
  case atStart => exact ⟨0, 2, _, rfl, rfl, by omega, rfl, hr0, .inr ⟨_, Nat.le_refl _, rfl⟩, hb0⟩
  case round =>
    clear hr0 hb0
    obtain ⟨k, p, vl, rfl, hpk, hp4, rfl, hrow, hown, hB⟩ := hrel
    have hlen := T.primes_len k (by omega)
    have hfull := Lib.hid (T.primes_full k (by omega))
    have hyes := Lib.hid (T.primes_yes k)
    have hno := Lib.hid (T.primes_no k)
    rw [← hpk] at hyes hno
    have Hpk := Lib.hid hpk
    have hend := Lib.hid (show p = 400 → T.primesTo k = T.plist from fun h => by
      obtain rfl : k = 398 := by omega
      exact T.primes_end)
    obtain ⟨A, c, hv, -, -⟩ := hrow.reads
    rw [List.length_map] at hv
    have hll : ((T.primesTo k).map u64V).length = (T.primesTo k).length := List.length_map ..
    have hlen2 : (((T.primesTo k).map u64V).length + 1) * 8 ≤ 140737488355328 := by omega
    subst hv
    clear hll hpk
    obtain ⟨L, hL⟩ : ∃ L, L = (T.primesTo k).length := ⟨_, rfl⟩
    rw [← hL] at hlen hfull hyes hno hrow hown ⊢
    have HL := Lib.hid hL
    clear hL
    have hp0 : (0 : Int) ≤ (p : Int) := by omega
    by_cases hlt : p < 400
    · have d1 : decide ((p : Int) < 400) = true := by simp; omega
      have d1' : decide (p < 400) = true := by simpa using hlt
      by_cases hL4 : L < 64
      · have d2 : decide ((L : Int) < 64) = true := by simp; omega
        have d2' : decide (L < 64) = true := by simpa using hL4
        have Hp := Lib.hid (fun W => prime_any p hlt W)
        by_cases hpr : T.prime p = true
        · rw [hpr] at Hp
          have Hn := Lib.hid (hyes.out hL4 hpr)
          clear hpr hyes hno hfull hend
          go_wp2_with (first | (go_at_call 97; with_reducible refine (Hp.out _).mono ?_; rintro e w1 ⟨rfl, rfl⟩) | (at_builtin; refine wpList_append_row rfl info_u64 (.tmp 18) (.tmp 20) 99 rfl Try.underlying99 rfl (hrow.alloc _) ⟨wr.heap.size, 0, none⟩ 1 1 [u64V p] rfl rfl (new_cells _ _ _ rfl _) (u64_one [p]) hlen2 ?_; intro v1 w2 hrow2 hg2 hr2))
          have hB1 := hB.alloc (o := .cells #[u64V p] 93) hB.size
          have hs1 : w.heap.size ≤ (wr.alloc (.cells #[u64V p] 93)).heap.size := by have := hB.size; simp; omega
          have hB2 := below_grown_own hB1 hs1 hg2 hown
          have hown2 := own_later hown hs1 hr2
          rw [show (T.primesTo k).map u64V ++ [u64V p] = (T.primesTo k ++ [p]).map u64V by simp, ← Hn.out] at hrow2
          go_roundw
          case rel => exact ⟨k + 1, p + 1, _, rfl, by rw [Hpk.out], by omega, by go_num, hrow2, hown2, hB2⟩
          case measure => simp [intOf]; omega
        · have hpf : T.prime p = false := by simpa using hpr
          rw [hpf] at Hp
          have Hn := Lib.hid (hno.out hL4 hpf)
          clear hpr hpf hyes hno hfull hend
          go_wp2_with (go_at_call 97; with_reducible refine (Hp.out _).mono ?_; rintro e w1 ⟨rfl, rfl⟩)
          go_roundw
          case rel => exact ⟨k + 1, p + 1, _, rfl, by rw [Hpk.out], by omega, by go_num, by rw [Hn.out]; exact hrow, hown, hB⟩
          case measure => simp [intOf]; omega
      · have d2 : decide ((L : Int) < 64) = false := by simp; omega
        have d2' : decide (L < 64) = false := by simpa using hL4
        have He := Lib.hid (hfull.out (by omega))
        clear hfull hyes hno hend
        go_wp2
        go_ret
        exact ⟨_, rfl, by rw [← He.out]; exact hrow, hB⟩
    · have d1 : decide ((p : Int) < 400) = false := by simp; omega
      have d1' : decide (p < 400) = false := by simpa using hlt
      have He := Lib.hid (hend.out (by omega))
      clear hfull hyes hno hend
      go_wp2
      go_ret
      exact ⟨_, rfl, by rw [← He.out]; exact hrow, hB⟩
end Go.Proofs.Ytgjmnhbkdccgpaa
