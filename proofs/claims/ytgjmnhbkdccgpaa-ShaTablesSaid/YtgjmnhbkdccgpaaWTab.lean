/- The walks of the tables' small parts: split, prime, most. -/
import Derived.Test.YtgjmnhbkdccgpaaKit5
import Derived.Test.YtgjmnhbkdccgpaaWRot
import Derived.Test.YtgjmnhbkdccgpaaPureRoot
namespace Go.Proofs.Ytgjmnhbkdccgpaa
open Go.RowKit

def u64V (n : Nat) : Value := .int .u64 (n : Int)
theorem info_u64 : Info1 93 (.int .u64 0) 8 := ⟨by kernel_rfl, rfl, by omega⟩
theorem u64_one (l : List Nat) : ∀ u ∈ l.map u64V, u.oneCell' = true := by
  intro u hu
  obtain ⟨b, _, rfl⟩ := List.mem_map.1 hu
  rfl
theorem u64_low (n : Nat) (h : n < 18446744073709551616) : bits .and .u64 (n : Int) 1048575 = ((n % 1048576 : Nat) : Int) := by
  have h2 := u64_and_nat n 1048575 h (by omega)
  rw [show n &&& 1048575 = n % 1048576 from Nat.and_two_pow_sub_one_eq_mod n 20] at h2
  exact h2
set_option maxRecDepth 100000 in
set_option maxHeartbeats 1000000 in
theorem split_any (x : Nat) (hx : x < 18446744073709551616) (w : World) :
    Calls Try.prog 98 #[.int .u64 (x : Int)] w fun e w' => e = .returned (.slice (some ⟨w.heap.size, 0, none⟩) 3 3) ∧ Row1 w' 93 (.slice (some ⟨w.heap.size, 0, none⟩) 3 3) ((T.split x).map u64V) ∧ Below w.heap.size w w' := by
  have h1 := u64_low x hx
  have h2 := u64_low (x / 1048576) (by omega)
  have h3 : (x : Int) / 1048576 = ((x / 1048576 : Nat) : Int) := by omega
  have h4 : (x : Int) / 1099511627776 = ((x / 1099511627776 : Nat) : Int) := by omega
  have hr := Row1.build w 93 ((T.split x).map u64V) #[.int .u64 ((x % 1048576 : Nat) : Int), .int .u64 ((x / 1048576 % 1048576 : Nat) : Int), .int .u64 ((x / 1099511627776 : Nat) : Int)] 3 rfl rfl (by omega)
  have hb := below_alloc1 w (.cells #[.int .u64 ((x % 1048576 : Nat) : Int), .int .u64 ((x / 1048576 % 1048576 : Nat) : Int), .int .u64 ((x / 1099511627776 : Nat) : Int)] 93)
  generalize (T.split x).map u64V = l at *
  have hxn : (0 : Int) ≤ (x : Int) := by omega
  generalize x % 1048576 = a at *
  generalize x / 1048576 % 1048576 = b at *
  generalize x / 1099511627776 = c at *
  generalize x / 1048576 = d at *
  go_enter Try.func98, Try.ntmps98
  go_wp2
  go_ret
  exact ⟨rfl, hr, hb⟩
theorem primeFrom_step (n f d : Nat) (h : d * d ≤ n) (h2 : n % d ≠ 0) : T.primeFrom n (f + 1) d = T.primeFrom n f (d + 1) := by
  rw [T.primeFrom, if_pos h, if_neg h2]
theorem primeFrom_no (n f d : Nat) (h : d * d ≤ n) (h2 : n % d = 0) : T.primeFrom n (f + 1) d = false := by
  rw [T.primeFrom, if_pos h, if_pos h2]
theorem primeFrom_end (n f d : Nat) (h : ¬ d * d ≤ n) : T.primeFrom n f d = decide (1 < n) := by
  cases f with
  | zero => rfl
  | succ f => rw [T.primeFrom, if_neg h]
theorem sq_lt {d n : Nat} (h : d * d ≤ n) (hn : n < 400) : d < 20 := by
  rcases Nat.lt_or_ge d 20 with h1 | h1
  · exact h1
  · have := Nat.mul_le_mul h1 h1; omega
set_option maxRecDepth 100000 in
set_option maxHeartbeats 1000000 in
theorem prime_any (n : Nat) (hn : n < 400) (w : World) :
    Calls Try.prog 97 #[.int .u64 (n : Int)] w fun e w' => e = .returned (.bool (T.prime n)) ∧ w = w' := by
  have hp : T.prime n = T.primeFrom n 20 2 := rfl
  have Hp := Lib.hid hp
  clear hp
  go_enter Try.func97, Try.ntmps97
  go_wp2
  go_loop [3] (fun v => ∃ d f : Nat, 2 ≤ d ∧ f + d = 22 ∧ d ≤ 20 ∧ v = .int .u64 (d : Int) ∧ T.primeFrom n f d = T.prime n) (fun v => 22 - (intOf v).toNat)
  case atStart => exact ⟨2, 20, by omega, by omega, by omega, rfl, Hp.out.symm⟩
  case round =>
    obtain ⟨d, f, hd2, hf, hd20, rfl, hpf⟩ := hrel
    have hdd : (d : Int) * (d : Int) = ((d * d : Nat) : Int) := by simp
    have hb : d * d ≤ 400 := by have := Nat.mul_le_mul hd20 hd20; omega
    have h0 : (0 : Int) ≤ ((d * d : Nat) : Int) := by omega
    have h1 : ((d * d : Nat) : Int) ≤ 400 := by omega
    by_cases hle : d * d ≤ n
    · have hlt := sq_lt hle hn
      have d1 : decide (d * d ≤ n) = true := by simpa using hle
      have d1' : decide (((d * d : Nat) : Int) ≤ (n : Int)) = true := by simp; omega
      obtain ⟨f, rfl⟩ : ∃ g, f = g + 1 := ⟨f - 1, by omega⟩
      have hm : (n : Int) % (d : Int) = ((n % d : Nat) : Int) := by simp
      have hdp : (0 : Int) < (d : Int) := by omega
      have hn0 : (0 : Int) ≤ (n : Int) := by omega
      have hnb : (n : Int) < 400 := by omega
      have hdne : ((d : Int) == 0) = false := by rw [beq_eq_false_iff_ne]; omega
      have htm : Int.tmod (n : Int) (d : Int) = ((n % d : Nat) : Int) := by rw [Int.tmod_eq_emod_of_nonneg hn0]; exact hm
      by_cases hz : n % d = 0
      · have Hr := Lib.hid ((primeFrom_no n f d hle hz).symm.trans hpf)
        have d2 : (((n % d : Nat) : Int) == 0) = true := by rw [hz]; rfl
        clear hpf hle hz hb
        generalize d * d = q at *
        generalize n % d = r at *
        go_wp2
        go_ret
        exact ⟨by rw [← Hr.out]; rfl, rfl⟩
      · have Hr := Lib.hid ((primeFrom_step n f d hle hz).symm.trans hpf)
        have d2 : (((n % d : Nat) : Int) == 0) = false := by rw [beq_eq_false_iff_ne]; omega
        clear hpf hle hz hb
        generalize d * d = q at *
        generalize n % d = r at *
        go_wp2
        go_round
        case rel => exact ⟨d + 1, f, by omega, by omega, by omega, by go_num, Hr.out⟩
        case measure => simp [intOf]; omega
    · have Hr := Lib.hid ((primeFrom_end n f d hle).symm.trans hpf)
      have d1 : decide (d * d ≤ n) = false := by simpa using hle
      have d1' : decide (((d * d : Nat) : Int) ≤ (n : Int)) = false := by simp; omega
      clear hpf hle hb
      generalize d * d = q at *
      go_wp2
      go_ret
      exact ⟨ret_bool (by rw [← Hr.out, Bool.eq_iff_iff, decide_eq_true_iff, decide_eq_true_iff]; omega), rfl⟩
set_option maxRecDepth 100000 in
set_option maxHeartbeats 1000000 in
theorem most_any (a b : List Nat) (va vb : Value) (w : World) (ha : SRead w va (a.map u64V)) (hb : SRead w vb (b.map u64V)) (hla : a.length ≤ 1000) (hlb : b.length ≤ 1000) :
    Calls Try.prog 100 #[va, vb] w fun e w' => e = .returned (.bool (T.most a b)) ∧ w = w' := by
  obtain ⟨A, cA, rfl, hcA, hA⟩ := ha
  obtain ⟨B, cB, rfl, hcB, hB⟩ := hb
  rw [List.length_map] at hcA hcB ⊢
  rw [List.length_map]
  have hm : T.most a b = T.mostTo a b (max a.length b.length) := rfl
  have Hm := Lib.hid hm
  have hmx : max (a.length : Int) (b.length : Int) = ((max a.length b.length : Nat) : Int) := by omega
  have hmb : max a.length b.length ≤ 1000 := by omega
  clear hm
  obtain ⟨n, hn⟩ : ∃ n, n = a.length := ⟨_, rfl⟩
  obtain ⟨m, hmm⟩ : ∃ m, m = b.length := ⟨_, rfl⟩
  rw [← hn, ← hmm] at hmx hmb Hm
  rw [← hn] at hcA hla ⊢
  rw [← hmm] at hcB hlb ⊢
  have Hn := Lib.hid hn
  have Hmm := Lib.hid hmm
  clear hn hmm
  generalize max n m = q at *
  go_enter Try.func100, Try.ntmps100
  go_wp2
  go_loop [6] (fun v => ∃ (k : Nat) (z : Int), k ≤ q ∧ z + 1 = k ∧ v = .int .i64 z ∧ T.mostTo a b k = T.most a b) (fun v => (intOf v + 1).toNat)
  case atStart => exact ⟨q, (q : Int) - 1, by omega, by omega, rfl, Hm.out.symm⟩
  case round =>
    obtain ⟨k, z, hkq, hz, rfl, hmt⟩ := hrel
    by_cases h0 : k = 0
    · subst h0
      obtain rfl : z = -1 := by omega
      have Hr := Lib.hid (show true = T.most a b from hmt)
      clear hmt
      go_wp2
      go_ret
      exact ⟨by rw [← Hr.out]; rfl, rfl⟩
    · obtain ⟨i, rfl⟩ := Int.eq_ofNat_of_zero_le (show 0 ≤ z by omega)
      obtain rfl : k = i + 1 := by omega
      have hrec : T.mostTo a b (i + 1) = if a.getD i 0 = b.getD i 0 then T.mostTo a b i else decide (a.getD i 0 < b.getD i 0) := rfl
      have Hr := Lib.hid (hrec.symm.trans hmt)
      have i0 : (0 : Int) ≤ (i : Int) := by omega
      have ib : (i : Int) ≤ 1000 := by omega
      clear hmt hrec
      have ca : i < n → ∃ g o, A = some ⟨g, o, none⟩ ∧ w.cell? ⟨g, o + i, none⟩ = some (.int .u64 ((a.getD i 0 : Nat) : Int)) := fun hi => by
        have hia : i < a.length := by have := Hn.out; omega
        obtain ⟨g, o, hAe, _, hc⟩ := hA.resolve_left (by intro e; have := congrArg List.length e; simp at this; rw [this] at hia; simp at hia)
        exact ⟨g, o, hAe, hc i _ (by rw [List.getElem?_map, List.getElem?_eq_getElem hia, List.getD_eq_getElem?_getD, List.getElem?_eq_getElem hia]; rfl)⟩
      have cb : i < m → ∃ g o, B = some ⟨g, o, none⟩ ∧ w.cell? ⟨g, o + i, none⟩ = some (.int .u64 ((b.getD i 0 : Nat) : Int)) := fun hi => by
        have hib : i < b.length := by have := Hmm.out; omega
        obtain ⟨g, o, hBe, _, hc⟩ := hB.resolve_left (by intro e; have := congrArg List.length e; simp at this; rw [this] at hib; simp at hib)
        exact ⟨g, o, hBe, hc i _ (by rw [List.getElem?_map, List.getElem?_eq_getElem hib, List.getD_eq_getElem?_getD, List.getElem?_eq_getElem hib]; rfl)⟩
      have na : ¬ i < n → a.getD i 0 = 0 := fun hi => by
        rw [List.getD_eq_getElem?_getD, List.getElem?_eq_none (by have := Hn.out; omega)]; rfl
      have nb : ¬ i < m → b.getD i 0 = 0 := fun hi => by
        rw [List.getD_eq_getElem?_getD, List.getElem?_eq_none (by have := Hmm.out; omega)]; rfl
      clear hA hB
      generalize hX : a.getD i 0 = X at *
      generalize hY : b.getD i 0 = Y at *
      clear hX hY
      by_cases hin : i < n
      · obtain ⟨ga, oa, rfl, ka⟩ := ca hin
        have d1 : decide ((i : Int) < (n : Int)) = true := by simp; omega
        have d1' : decide (i < n) = true := by simpa using hin
        have d1'' : (i : Int) < (n : Int) := by omega
        clear na ca
        by_cases him : i < m
        · obtain ⟨gb, ob, rfl, kb⟩ := cb him
          have d2 : decide ((i : Int) < (m : Int)) = true := by simp; omega
          have d2' : decide (i < m) = true := by simpa using him
          have d2'' : (i : Int) < (m : Int) := by omega
          clear nb cb hin him
          by_cases hxy : X = Y
          · have Hq := Lib.hid (Hr.out.symm.trans (if_pos hxy))
            clear Hr
            subst hxy
            go_wp2
            go_round
            case rel => exact ⟨i, (i : Int) - 1, by omega, by omega, by rfl, Hq.out.symm⟩
            case measure => simp [intOf]
          · have Hq := Lib.hid (Hr.out.symm.trans (if_neg hxy))
            have d3 : ((X : Int) == (Y : Int)) = false := by rw [beq_eq_false_iff_ne]; omega
            have d3' : ((X : Int) != (Y : Int)) = true := by rw [bne, d3]; rfl
            clear Hr hxy
            go_wp2
            go_ret
            exact ⟨ret_bool (by rw [Hq.out]; try (rw [Bool.eq_iff_iff]); try simp; try omega), rfl⟩
        · have hY := nb him
          subst hY
          have d2 : decide ((i : Int) < (m : Int)) = false := by simp; omega
          have d2' : decide (i < m) = false := by simpa using him
          clear nb cb hin him
          by_cases hxy : X = 0
          · have Hq := Lib.hid (Hr.out.symm.trans (if_pos hxy))
            clear Hr
            subst hxy
            go_wp2
            go_round
            case rel => exact ⟨i, (i : Int) - 1, by omega, by omega, by rfl, Hq.out.symm⟩
            case measure => simp [intOf]
          · have Hq := Lib.hid (Hr.out.symm.trans (if_neg hxy))
            have d3 : ((X : Int) == (0 : Int)) = false := by rw [beq_eq_false_iff_ne]; omega
            have d3' : ((X : Int) != (0 : Int)) = true := by rw [bne, d3]; rfl
            clear Hr hxy
            go_wp2
            go_ret
            exact ⟨ret_bool (by rw [Hq.out]; try (rw [Bool.eq_iff_iff]); try simp; try omega), rfl⟩
      · have hX := na hin
        subst hX
        have d1 : decide ((i : Int) < (n : Int)) = false := by simp; omega
        have d1' : decide (i < n) = false := by simpa using hin
        clear na ca
        by_cases him : i < m
        · obtain ⟨gb, ob, rfl, kb⟩ := cb him
          have d2 : decide ((i : Int) < (m : Int)) = true := by simp; omega
          have d2' : decide (i < m) = true := by simpa using him
          have d2'' : (i : Int) < (m : Int) := by omega
          clear nb cb hin him
          by_cases hxy : 0 = Y
          · have Hq := Lib.hid (Hr.out.symm.trans (if_pos hxy))
            clear Hr
            subst hxy
            go_wp2
            go_round
            case rel => exact ⟨i, (i : Int) - 1, by omega, by omega, by rfl, Hq.out.symm⟩
            case measure => simp [intOf]
          · have Hq := Lib.hid (Hr.out.symm.trans (if_neg hxy))
            have d3 : ((0 : Int) == (Y : Int)) = false := by rw [beq_eq_false_iff_ne]; omega
            have d3' : ((0 : Int) != (Y : Int)) = true := by rw [bne, d3]; rfl
            clear Hr hxy
            go_wp2
            go_ret
            exact ⟨ret_bool (by rw [Hq.out]; try (rw [Bool.eq_iff_iff]); try simp; try omega), rfl⟩
        · have hY := nb him
          subst hY
          have d2 : decide ((i : Int) < (m : Int)) = false := by simp; omega
          have d2' : decide (i < m) = false := by simpa using him
          clear nb cb hin him
          have Hq := Lib.hid (Hr.out.symm.trans (if_pos rfl))
          clear Hr
          go_wp2
          go_round
          case rel => exact ⟨i, (i : Int) - 1, by omega, by omega, by rfl, Hq.out.symm⟩
          case measure => simp [intOf]
end Go.Proofs.Ytgjmnhbkdccgpaa
