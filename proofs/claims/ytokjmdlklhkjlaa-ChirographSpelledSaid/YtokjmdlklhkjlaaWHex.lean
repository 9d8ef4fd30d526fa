/- The walks of labels as digits: bits.digit, Hex, Read; the reference's digit, Hex, Read. -/
import Derived.Test.YtokjmdlklhkjlaaWCut
import Derived.ShutString
namespace Go.Proofs.Ytokjmdlklhkjlaa
open Go.RowKit

set_option maxHeartbeats 1000000 in
/-- bits.digit. -/
theorem digit_any (c : UInt8) (w : World) : Calls Try.prog 42 #[.int .u8 (c.toNat : Int)] w fun e w' => e = .returned (.int .u8 ((B.dig c : Nat) : Int)) ∧ Below w.heap.size w w' := by
  have hx := c.toNat_lt
  have hd : B.dig c = if 48 ≤ c.toNat ∧ c.toNat ≤ 57 then c.toNat - 48 else if 97 ≤ c.toNat ∧ c.toNat ≤ 102 then c.toNat - 87 else 255 := rfl
  have Hd := Lib.hid hd
  clear hd
  generalize c.toNat = x at hx Hd
  generalize B.dig c = y at Hd
  by_cases h1 : 48 ≤ x
  · have d1 : decide ((48 : Int) ≤ x) = true := by simp; omega
    by_cases h2 : x ≤ 57
    · have d2 : decide ((x : Int) ≤ 57) = true := by simp; omega
      have Hy := Lib.hid (Hd.out.trans (if_pos ⟨h1, h2⟩))
      have hb1 : (48 : Int) ≤ x := by omega
      clear Hd h1 h2
      go_enter Try.func42, Try.ntmps42
      go_wp2
      go_ret
      exact ⟨ret_int (by rw [Hy.out]; first | rfl | omega), Below.refl _ _⟩
    · have d2 : decide ((x : Int) ≤ 57) = false := by simp; omega
      have hd2 := Hd.out.trans (if_neg (by omega))
      clear Hd
      by_cases h3 : 97 ≤ x
      · have d3 : decide ((97 : Int) ≤ x) = true := by simp; omega
        by_cases h4 : x ≤ 102
        · have d4 : decide ((x : Int) ≤ 102) = true := by simp; omega
          have Hy := Lib.hid (hd2.trans (if_pos ⟨h3, h4⟩))
          have hb1 : (97 : Int) ≤ x := by omega
          clear hd2 h1 h2 h3 h4
          go_enter Try.func42, Try.ntmps42
          go_wp2
          go_ret
          exact ⟨ret_int (by rw [Hy.out]; first | rfl | omega), Below.refl _ _⟩
        · have d4 : decide ((x : Int) ≤ 102) = false := by simp; omega
          have Hy := Lib.hid (hd2.trans (if_neg (by omega)))
          clear hd2 h1 h2 h3 h4
          go_enter Try.func42, Try.ntmps42
          go_wp2
          go_ret
          exact ⟨ret_int (by rw [Hy.out]; first | rfl | omega), Below.refl _ _⟩
      · have d3 : decide ((97 : Int) ≤ x) = false := by simp; omega
        have Hy := Lib.hid (hd2.trans (if_neg (by omega)))
        clear hd2 h1 h2 h3
        go_enter Try.func42, Try.ntmps42
        go_wp2
        go_ret
        exact ⟨ret_int (by rw [Hy.out]; first | rfl | omega), Below.refl _ _⟩
  · have d1 : decide ((48 : Int) ≤ x) = false := by simp; omega
    have d3 : decide ((97 : Int) ≤ x) = false := by simp; omega
    have Hy := Lib.hid ((Hd.out.trans (if_neg (by omega))).trans (if_neg (by omega)))
    clear Hd h1
    go_enter Try.func42, Try.ntmps42
    go_wp2
    go_ret
    exact ⟨ret_int (by rw [Hy.out]; first | rfl | omega), Below.refl _ _⟩

/-- The sixteen digits. -/
def digs : ByteArray := ⟨#[48, 49, 50, 51, 52, 53, 54, 55, 56, 57, 97, 98, 99, 100, 101, 102]⟩
theorem digs_at (k : Nat) (h : k < (⟨#[48, 49, 50, 51, 52, 53, 54, 55, 56, 57, 97, 98, 99, 100, 101, 102]⟩ : ByteArray).size) :
    ((⟨#[48, 49, 50, 51, 52, 53, 54, 55, 56, 57, 97, 98, 99, 100, 101, 102]⟩ : ByteArray)[k]'h).toNat = (B.hexd k).toNat := by
  have key : ∀ k : Fin 16, ((⟨#[48, 49, 50, 51, 52, 53, 54, 55, 56, 57, 97, 98, 99, 100, 101, 102]⟩ : ByteArray)[k.val]'(k.isLt)).toNat = (B.hexd k.val).toNat := by decide
  exact key ⟨k, h⟩
/-- A digit's worth as the reference says it. -/
def rdig (c : UInt8) : Int := if B.dig c ≤ 15 then ((B.dig c : Nat) : Int) else -1
theorem rdig_at (c : UInt8) (k : Nat) (hk : k < 16) (h : (B.hexd k).toNat = c.toNat) : rdig c = k := by
  have : c = B.hexd k := (UInt8.toNat_inj.1 h).symm
  unfold rdig
  rw [this, B.dig_hexd k hk, if_pos (by omega)]
theorem rdig_none (c : UInt8) (h : ∀ k, k < 16 → (B.hexd k).toNat ≠ c.toNat) : rdig c = -1 := by
  unfold rdig
  rw [if_neg]
  intro h15
  exact h (B.dig c) (by omega) (by rw [B.hexd_dig c h15])
def NoneYet (x k : Nat) : Prop := ∀ j, j < k → (B.hexd j).toNat ≠ x

set_option maxHeartbeats 1000000 in
/-- The reference's digit. -/
theorem rdigit_any (c : UInt8) (w : World) : Calls Try.prog 43 #[.int .u8 (c.toNat : Int)] w fun e w' => e = .returned (.int .i64 (rdig c)) ∧ Below w.heap.size w w' := by
  go_enter Try.func43, Try.ntmps43
  go_wp2
  go_loop [3] (fun v => ∃ k : Nat, k ≤ 16 ∧ v = .int .i64 (k : Int) ∧ NoneYet c.toNat k) (fun v => (16 - intOf v).toNat)
  case atStart => exact ⟨0, by omega, by simp, fun j hj => by omega⟩
  case round =>
    obtain ⟨k, hk, rfl, hno⟩ := hrel
    have hdg := digs_at k
    by_cases hlt : k < 16
    · by_cases he : (B.hexd k).toNat = c.toNat
      · have hq : (((B.hexd k).toNat : Int) == (c.toNat : Int)) = true := by rw [he]; simp
        have hr := Lib.hid (rdig_at c k hlt he)
        clear he
        go_wp2
        go_ret
        exact ⟨ret_int (by rw [hr.out]), Below.refl _ _⟩
      · have hq : (((B.hexd k).toNat : Int) == (c.toNat : Int)) = false := by rw [beq_eq_false_iff_ne]; omega
        have hn : NoneYet c.toNat (k + 1) := fun j hj => by
          by_cases e : j = k
          · subst e; exact he
          · exact hno j (by omega)
        clear he
        go_wp2
        go_round
        case rel => exact ⟨k + 1, by omega, by go_num, hn⟩
        case measure => simp [intOf]; omega
    · have hk16 : k = 16 := by omega
      subst hk16
      have hr := Lib.hid (rdig_none c hno)
      go_wp2
      go_ret
      exact ⟨ret_int (by rw [hr.out]), Below.refl _ _⟩
end Go.Proofs.Ytokjmdlklhkjlaa
