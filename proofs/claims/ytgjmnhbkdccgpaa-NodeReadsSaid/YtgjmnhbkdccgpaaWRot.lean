/- The walks of words that are turned. -/
import Derived.Test.YtgjmnhbkdccgpaaKit3
import Derived.Test.YtgjmnhbkdccgpaaPureSha
namespace Go.Proofs.Ytgjmnhbkdccgpaa
open Go.RowKit

/-- A word as a number, kept behind a name; as a value. -/
def uw (x : BitVec 32) : Int := (x.toNat : Int)
def w32 (x : BitVec 32) : Value := .int .u32 (uw x)
theorem uw_bd (x : BitVec 32) : 0 ≤ uw x ∧ uw x < 4294967296 := by have := x.isLt; unfold uw; omega
theorem uw_xor (a b : BitVec 32) : bits .xor .u32 (uw a) (uw b) = uw (a ^^^ b) := by
  unfold uw; rw [u32_xor_nat _ _ a.isLt b.isLt, BitVec.toNat_xor]
theorem uw_and (a b : BitVec 32) : bits .and .u32 (uw a) (uw b) = uw (a &&& b) := by
  unfold uw; rw [u32_and_nat _ _ a.isLt b.isLt, BitVec.toNat_and]
theorem uw_or (a b : BitVec 32) : bits .or .u32 (uw a) (uw b) = uw (a ||| b) := by
  unfold uw; rw [u32_or_nat _ _ a.isLt b.isLt, BitVec.toNat_or]
theorem uw_add (a b : BitVec 32) : IntKind.u32.wrap (uw a + uw b) = uw (a + b) := by
  unfold uw; rw [IntKind.wrap_u32, BitVec.toNat_add]; omega
theorem uw_add' (a b : BitVec 32) : (uw a + uw b) % (4294967296 : Int) = uw (a + b) := by
  unfold uw; rw [BitVec.toNat_add]; omega
theorem uw_shr (a : BitVec 32) (n : Nat) : uw a / 2 ^ n = uw (a >>> n) := by
  unfold uw; rw [BitVec.toNat_ushiftRight, Nat.shiftRight_eq_div_pow, Int.natCast_ediv, Int.natCast_pow]; rfl
theorem uw_shr3 (a : BitVec 32) : uw a / (8 : Int) = uw (a >>> 3) := uw_shr a 3
theorem uw_shr10 (a : BitVec 32) : uw a / (1024 : Int) = uw (a >>> 10) := uw_shr a 10
theorem uw_not (x : BitVec 32) : bits .xor .u32 IntKind.u32.max (uw x) = uw (~~~x) := by
  have h := u32_xor_nat 4294967295 x.toNat (by omega) x.isLt
  have e : IntKind.u32.max = ((4294967295 : Nat) : Int) := by decide
  have h2 : (BitVec.allOnes 32 ^^^ x) = ~~~x := BitVec.allOnes_xor
  unfold uw
  rw [e, h, ← h2, BitVec.toNat_xor]
  rfl
attribute [go_sem] uw_xor uw_and uw_or uw_add uw_add' uw_shr3 uw_shr10 uw_not
/-- Words as cells. -/
def wsA (l : List (BitVec 32)) : Array Value := (l.map w32).toArray
theorem wsA_size (l : List (BitVec 32)) : (wsA l).size = l.length := by simp [wsA]
theorem wsA_get (l : List (BitVec 32)) (j : Nat) (h : j < l.length) : (wsA l)[j]? = some (.int .u32 (uw (l.getD j 0#32))) := by
  simp [wsA, w32, List.getElem?_eq_getElem h, List.getD_eq_getElem?_getD]
theorem wsA_set (l : List (BitVec 32)) (j : Nat) (b : BitVec 32) : (wsA l).setIfInBounds j (w32 b) = wsA (l.set j b) := by simp [wsA, List.map_set]
theorem wsA_all (l : List (BitVec 32)) : (wsA l).all (·.oneCell') = true := by
  rw [Array.all_eq_true_iff_forall_mem]
  intro v hv
  simp only [wsA, List.mem_toArray, List.mem_map] at hv
  obtain ⟨b, _, rfl⟩ := hv
  rfl
theorem neg31 : ∀ n : Fin 32, 1 ≤ n.val → bits .and .u64 (IntKind.u64.wrap (-(n.val : Int))) 31 = ((32 - n.val : Nat) : Int) := by decide
theorem rot_walk (x : BitVec 32) (n m : Nat) (h : n + m = 32) : bits .or .u32 ((x.toNat : Int) * 2 ^ m % 4294967296) ((x.toNat : Int) / 2 ^ (32 - m)) = ((S.rotr x n).toNat : Int) := by
  have e1 : (x.toNat : Int) * 2 ^ m % 4294967296 = ((x <<< m).toNat : Int) := by
    rw [BitVec.toNat_shiftLeft, Nat.shiftLeft_eq, Int.natCast_emod, Int.natCast_mul, Int.natCast_pow]; rfl
  have e2 : (x.toNat : Int) / 2 ^ (32 - m) = ((x >>> n).toNat : Int) := by
    rw [show 32 - m = n from by omega, BitVec.toNat_ushiftRight, Nat.shiftRight_eq_div_pow, Int.natCast_ediv, Int.natCast_pow]; rfl
  rw [e1, e2, u32_or_nat _ _ (x <<< m).isLt (x >>> n).isLt, ← BitVec.toNat_or, BitVec.or_comm]
  unfold S.rotr
  rw [show 32 - n = m from by omega]
set_option maxRecDepth 100000 in
set_option maxHeartbeats 1000000 in
theorem turn_any (x : BitVec 32) (n : Nat) (h1 : 1 ≤ n) (h2 : n ≤ 31) (w : World) :
    Calls Try.prog 96 #[.int .u32 (x.toNat : Int), .int .i64 (n : Int)] w fun e w' => e = .returned (.int .u32 ((S.rotr x n).toNat : Int)) ∧ w = w' := by
  have hx := x.isLt
  have hn1 : (1 : Int) ≤ (n : Int) := by omega
  have hn2 : (n : Int) ≤ 31 := by omega
  have hs := neg31 ⟨n, by omega⟩ h1
  simp only at hs
  obtain ⟨m, hm⟩ : ∃ m, 32 - n = m := ⟨_, rfl⟩
  rw [hm] at hs
  have hm0 : (0 : Int) ≤ (m : Int) := by omega
  have hm1 : (m : Int) ≤ 32 := by omega
  have Hm := Lib.hid hm
  clear hm h1 h2
  go_enter Try.func96, Try.ntmps96
  go_wp2
  go_ret
  have e := rot_walk x n m (by have := Hm.out; omega)
  exact ⟨ret_int e, rfl⟩
/-- The contracts as regions that draw want them. -/
theorem turn_lit (x : BitVec 32) (n : Nat) (k : Int) (hk : k = (n : Int)) (h1 : 1 ≤ n) (h2 : n ≤ 31) (w : World) :
    Calls Try.prog 96 #[.int .u32 (uw x), .int .i64 k] w fun e w' => e = .returned (.int .u32 (uw (S.rotr x n))) ∧ w' = w := by
  subst hk; exact (turn_any x n h1 h2 w).mono fun _ _ ⟨h, e⟩ => ⟨h, e.symm⟩
end Go.Proofs.Ytgjmnhbkdccgpaa
