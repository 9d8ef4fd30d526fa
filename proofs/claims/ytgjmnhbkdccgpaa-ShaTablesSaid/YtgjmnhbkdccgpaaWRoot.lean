/- The walk of Root. -/
import Derived.Test.YtgjmnhbkdccgpaaWLimbs
namespace Go.Proofs.Ytgjmnhbkdccgpaa
open Go.RowKit

namespace T
theorem wantTo_length (p : Nat) : ∀ i, (wantTo p i).length = 3 + 4 * i
  | 0 => rfl
  | i + 1 => by rw [wantTo, limbs_length, wantTo_length p i]; show 3 + 4 * i + 3 + 1 = _; omega
theorem gotTo_length (y : Nat) : ∀ i, (gotTo y i).length = 3 + 4 * i
  | 0 => rfl
  | i + 1 => by rw [gotTo, limbs_length, gotTo_length y i]; show 3 + 4 * i + 3 + 1 = _; omega
theorem rootTo_le (want : List Nat) (power : Nat) : ∀ k, k ≤ 38 → rootTo want power k + 2 ^ (38 - k) ≤ 2 ^ 38
  | 0, _ => by simp [rootTo]
  | k + 1, h => by
    have ih := rootTo_le want power k (by omega)
    have e : 2 ^ (38 - k) = 2 ^ (37 - k) + 2 ^ (37 - k) := by rw [show 38 - k = (37 - k) + 1 from by omega, Nat.pow_succ]; omega
    rw [show 38 - (k + 1) = 37 - k from by omega]
    rw [rootTo]
    rw [e] at ih
    generalize 2 ^ (37 - k) = q at *
    generalize (2 : Nat) ^ 38 = Z at *
    split <;> omega
theorem rootTo_lt (want : List Nat) (power k : Nat) (h : k < 38) : rootTo want power k + 2 ^ (37 - k) < 274877906944 := by
  have := rootTo_le want power k (by omega)
  have e : 2 ^ (38 - k) = 2 ^ (37 - k) + 2 ^ (37 - k) := by rw [show 38 - k = (37 - k) + 1 from by omega, Nat.pow_succ]; omega
  have h0 : 0 < 2 ^ (37 - k) := Nat.two_pow_pos _
  have e2 : (2 : Nat) ^ 38 = 274877906944 := by decide
  omega
end T
theorem u64_low32 (n : Nat) (h : n < 18446744073709551616) : bits .and .u64 (n : Int) 4294967295 = ((n % 4294967296 : Nat) : Int) := by
  have h2 := u64_and_nat n 4294967295 h (by omega)
  rw [show n &&& 4294967295 = n % 4294967296 from Nat.and_two_pow_sub_one_eq_mod n 32] at h2
  exact h2
set_option maxRecDepth 100000 in
set_option maxHeartbeats 4000000 in
theorem root_any (p power : Nat) (hp : p < 400) (h1 : 1 ≤ power) (h3 : power ≤ 3) (w : World) :
    Calls Try.prog 64 #[.int .u64 (p : Int), .int .i64 (power : Int)] w fun e w' => e = .returned (.int .u32 (T.root p power : Int)) ∧ Below w.heap.size w w' := by
  have Hs1 := Lib.hid (fun W => split_any p (by omega) W)
  have hs2 : ∀ W, Calls Try.prog 98 #[.int .u64 4294967296] W fun e w' => e = .returned (.slice (some ⟨W.heap.size, 0, none⟩) 3 3) ∧ Row1 w' 93 (.slice (some ⟨W.heap.size, 0, none⟩) 3 3) ((T.split 4294967296).map u64V) ∧ Below W.heap.size W w' := fun W => split_any 4294967296 (by omega) W
  have Hs2 := Lib.hid hs2
  clear hs2
  go_enter Try.func64, Try.ntmps64
  go_wp2_with (go_at_call 98; with_reducible refine (Hs1.out _).mono ?_; rintro e w1 ⟨rfl, hr1, hb1⟩)
  have hrd := hr1.reads
  rw [show T.split p = T.wantTo p 0 from rfl] at hrd
  clear hr1
  generalize (Value.slice (some ⟨w.heap.size, 0, none⟩) 3 3) = v1 at *
  go_loopw [5, 6] (fun v i wr => ∃ (k : Nat) (vw : Value), vw = v ∧ k ≤ power ∧ i = .int .i64 (k : Int) ∧ SRead wr vw ((T.wantTo p k).map u64V) ∧ Below w.heap.size w wr) (fun _ i _ => power - (intOf i).toNat)
  case atStart => exact ⟨0, _, rfl, by omega, rfl, hrd, hb1⟩
  case round =>
    clear hrd hb1
    obtain ⟨k, vw, rfl, hk, rfl, hrd, hB⟩ := hrel
    by_cases hlt : k < power
    · have d1 : decide ((k : Int) < (power : Int)) = true := by simp; omega
      have d1' : decide (k < power) = true := by simpa using hlt
      have hwl := T.wantTo_length p k
      have hsl : (T.split 4294967296).length = 3 := rfl
      have Hwn := Lib.hid (show T.wantTo p (k + 1) = T.limbs (T.wantTo p k) (T.split 4294967296) from rfl)
      have hll := T.limbs_length (T.wantTo p k) (T.split 4294967296)
      have HL := Lib.hid (fun (vb : Value) (W : World) (ha : SRead W vw ((T.wantTo p k).map u64V)) (hb : SRead W vb ((T.split 4294967296).map u64V)) => limbs_any (T.wantTo p k) (T.split 4294967296) vw vb W ha hb (by omega) (by omega))
      generalize T.limbs (T.wantTo p k) (T.split 4294967296) = L2 at *
      generalize T.wantTo p k = L0 at *
      generalize T.split 4294967296 = S0 at *
      go_wp2_with (first | (go_at_call 98; with_reducible refine (Hs2.out _).mono ?_; rintro e w1 ⟨rfl, hr1, hb1⟩) | (go_at_call 99; with_reducible refine (HL.out _ _ (hrd.at_ hb1) hr1.reads).mono ?_; rintro e w2 ⟨rfl, bk2, hb2⟩))
      go_roundw
      case rel => exact ⟨k + 1, _, rfl, by omega, by go_num, by rw [Hwn.out]; exact blk_sread bk2 (by omega) (Nat.le_refl _), (hB.trans (hb1.mono hB.size)).trans (hb2.mono (Nat.le_trans hB.size hb1.size))⟩
      case measure => simp [intOf]; omega
    · obtain rfl : k = power := by omega
      have hwl := T.wantTo_length p k
      have Hroot := Lib.hid (show T.root p k = T.rootTo (T.wantTo p k) k 38 % 4294967296 from rfl)
      clear hlt
      generalize T.wantTo p k = want at *
      go_wp2
      go_loopw [7, 8] (fun x v wr => ∃ (j : Nat) (z : Int), j ≤ 38 ∧ z + j = 37 ∧ v = .int .i64 z ∧ x = .int .u64 ((T.rootTo want k j : Nat) : Int) ∧ SRead wr vw (want.map u64V) ∧ Below w.heap.size w wr) (fun _ v _ => (intOf v + 1).toNat)
      case atStart => exact ⟨0, 37, by omega, by omega, rfl, rfl, hrd, hB⟩
      case round =>
        clear hrd hB
        obtain ⟨j, z, hj, hz, rfl, rfl, hrd, hB⟩ := hrel
        by_cases hlj : j < 38
        · have hz0 : 0 ≤ z := by omega
          have hz1 : z ≤ 37 := by omega
          have hxl := T.rootTo_lt want k j hlj
          have hstep : T.rootTo want k (j + 1) = if T.most (T.gotTo (T.rootTo want k j + 2 ^ (37 - j)) (k - 1)) want then T.rootTo want k j + 2 ^ (37 - j) else T.rootTo want k j := rfl
          have hsh : (2 : Int) ^ z.toNat = ((2 ^ (37 - j) : Nat) : Int) := by rw [show z.toNat = 37 - j from by omega]; simp
          have hq0 := Nat.two_pow_pos (37 - j)
          have Hstep := Lib.hid hstep
          clear hstep
          generalize 2 ^ (37 - j) = q at *
          generalize T.rootTo want k j = x at *
          have hsum : (x : Int) + (q : Int) = ((x + q : Nat) : Int) := by omega
          have Hs3 := Lib.hid (fun W => split_any (x + q) (by omega) W)
          generalize hy : x + q = y at *
          have Hy := Lib.hid hy
          clear hy
          have hsum2 : IntKind.u64.wrap ((x : Int) + (q : Int)) = (y : Int) := by rw [hsum]; exact IntWalk.u64_in _ (by omega)
          have hx0 : (0 : Int) ≤ (x : Int) := by omega
          have hqq : (0 : Int) < (q : Int) := by omega
          have hxb : (x : Int) ≤ 274877906944 := by omega
          have hqb : (q : Int) ≤ 274877906944 := by omega
          have hshw : IntKind.u64.wrap ((2 : Int) ^ z.toNat) = (q : Int) := by rw [hsh]; exact IntWalk.u64_in _ (by omega)
          clear hxl hq0
          go_wp2_with (go_at_call 98; with_reducible refine (Hs3.out _).mono ?_; rintro e w1 ⟨rfl, hr1, hb1⟩)
          have hrd3 := hr1.reads
          rw [show T.split y = T.gotTo y 0 from rfl] at hrd3
          have hrd1 := hrd.at_ hb1
          have hB1 := hB.trans (hb1.mono hB.size)
          clear hr1 hrd hB hb1 hsum2 hshw hsum hx0 hqq hxb hqb
          generalize (Value.slice (some ⟨wr.heap.size, 0, none⟩) 3 3) = vg0 at *
          go_loopw [10, 11] (fun v i wz => ∃ (m : Nat) (vg : Value), vg = v ∧ m + 1 ≤ k ∧ i = .int .i64 ((m + 1 : Nat) : Int) ∧ SRead wz vg ((T.gotTo y m).map u64V) ∧ SRead wz vw (want.map u64V) ∧ Below w.heap.size w wz) (fun _ i _ => k - (intOf i).toNat)
          case atStart => exact ⟨0, _, rfl, by omega, rfl, hrd3, hrd1, hB1⟩
          case round =>
            clear hrd3 hrd1 hB1
            obtain ⟨m, vg, rfl, hm, rfl, hrg, hrw, hB⟩ := hrel
            have hgl := T.gotTo_length y m
            by_cases hlm : m + 1 < k
            · have d2 : decide (((m + 1 : Nat) : Int) < (k : Int)) = true := by simp; omega
              have d2' : decide (m + 1 < k) = true := by simpa using hlm
              have hsl : (T.split y).length = 3 := rfl
              have Hgn := Lib.hid (show T.gotTo y (m + 1) = T.limbs (T.gotTo y m) (T.split y) from rfl)
              have hll := T.limbs_length (T.gotTo y m) (T.split y)
              have HL := Lib.hid (fun (vb : Value) (W : World) (ha : SRead W vg ((T.gotTo y m).map u64V)) (hb : SRead W vb ((T.split y).map u64V)) => limbs_any (T.gotTo y m) (T.split y) vg vb W ha hb (by omega) (by omega))
              generalize T.limbs (T.gotTo y m) (T.split y) = L2 at *
              generalize T.gotTo y m = L0 at *
              generalize T.split y = S0 at *
              have hmb : ((m + 1 : Nat) : Int) ≤ 3 := by omega
              have hm0 : (0 : Int) ≤ ((m + 1 : Nat) : Int) := by omega
              obtain ⟨m1, hm1⟩ : ∃ m1, m1 = m + 1 := ⟨_, rfl⟩
              rw [← hm1] at d2 d2' hmb hm0 ⊢
              have Hm1 := Lib.hid hm1
              clear hm1
              go_wp2_with (first | (go_at_call 98; with_reducible refine (Hs3.out _).mono ?_; rintro e w1 ⟨rfl, hr1, hb1⟩) | (go_at_call 99; with_reducible refine (HL.out _ _ (hrg.at_ hb1) hr1.reads).mono ?_; rintro e w2 ⟨rfl, bk2, hb2⟩))
              have hm2 := Hm1.out
              go_roundw
              case rel => exact ⟨m + 1, _, rfl, by omega, by rw [hm2]; simp, by rw [Hgn.out]; exact blk_sread bk2 (by omega) (Nat.le_refl _), (hrw.at_ hb1).at_ hb2, (hB.trans (hb1.mono hB.size)).trans (hb2.mono (Nat.le_trans hB.size hb1.size))⟩
              case measure => have := Hm1.out; simp [intOf]; omega
            · have d2 : decide (((m + 1 : Nat) : Int) < (k : Int)) = false := by simp; omega
              have d2' : decide (m + 1 < k) = false := by simpa using hlm
              have HM := Lib.hid (fun W (ha : SRead W vg ((T.gotTo y m).map u64V)) (hb : SRead W vw (want.map u64V)) => most_any (T.gotTo y m) want vg vw W ha hb (by omega) (by omega))
              have Hst := Hstep.out
              rw [show k - 1 = m from by omega] at Hst
              have Hs4 := Lib.hid Hst
              have hmb : ((m + 1 : Nat) : Int) ≤ 3 := by omega
              have hm0 : (0 : Int) ≤ ((m + 1 : Nat) : Int) := by omega
              clear Hst Hstep hgl hlm
              obtain ⟨m1, hm1⟩ : ∃ m1, m1 = m + 1 := ⟨_, rfl⟩
              rw [← hm1] at d2 d2' hmb hm0 hm ⊢
              have Hm1 := Lib.hid hm1
              clear hm1
              by_cases hmost : T.most (T.gotTo y m) want = true
              · rw [hmost] at HM
                have Hs5 := Lib.hid (Hs4.out.trans (if_pos hmost))
                clear hmost
                go_wp2_with (go_at_call 100; with_reducible refine (HM.out _ hrg hrw).mono ?_; rintro e w5 ⟨rfl, rfl⟩)
                go_roundw
                case rel => exact ⟨j + 1, z - 1, by omega, by omega, by rfl, by rw [Hs5.out], hrw, hB⟩
                case measure => simp [intOf]; omega
              · have hmf : T.most (T.gotTo y m) want = false := by simpa using hmost
                rw [hmf] at HM
                have Hs5 := Lib.hid (Hs4.out.trans (if_neg hmost))
                clear hmost hmf
                go_wp2_with (go_at_call 100; with_reducible refine (HM.out _ hrg hrw).mono ?_; rintro e w5 ⟨rfl, rfl⟩)
                go_roundw
                case rel => exact ⟨j + 1, z - 1, by omega, by omega, by rfl, by rw [Hs5.out], hrw, hB⟩
                case measure => simp [intOf]; omega
        · obtain rfl : j = 38 := by omega
          obtain rfl : z = -1 := by omega
          have hle := T.rootTo_le want k 38 (Nat.le_refl _)
          have e38 : (2 : Nat) ^ 38 = 274877906944 := by decide
          have hxl : T.rootTo want k 38 < 274877906944 := by rw [e38] at hle; simp at hle; omega
          have hlo := u64_low32 (T.rootTo want k 38) (by omega)
          have hRo := Hroot.out
          rw [← hRo] at hlo
          have hRb : T.root p k < 4294967296 := by rw [hRo]; exact Nat.mod_lt _ (by decide)
          have hRi : (0 : Int) ≤ (T.root p k : Int) ∧ (T.root p k : Int) < 4294967296 := by omega
          obtain ⟨hR0, hR1⟩ := hRi
          clear hle e38 hRo hRb Hroot hrd
          generalize T.rootTo want k 38 = x at *
          generalize hRR : T.root p k = R at *
          have HRR := Lib.hid hRR
          clear hRR
          have hx0 : (0 : Int) ≤ (x : Int) := by omega
          go_wp2
          go_ret
          exact ⟨by rw [HRR.out]; rfl, hB⟩
end Go.Proofs.Ytgjmnhbkdccgpaa
