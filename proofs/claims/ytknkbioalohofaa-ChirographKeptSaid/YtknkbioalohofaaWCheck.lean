/- The walks of seal.table and seal.Check. -/
import Derived.Test.YtknkbioalohofaaKit3
import Derived.Test.YtknkbioalohofaaPureTab
namespace Go.Proofs.Ytknkbioalohofaa
open Go.RowKit

def c32v (x : BitVec 32) : Value := .int .u32 (x.toNat : Int)
/-- The table as far as it is filled. -/
def tabA (k : Nat) : Array Value := ((List.range 256).map fun i => if i < k then c32v (C.tab i) else c32v 0#32).toArray
theorem tabA_size (k : Nat) : (tabA k).size = 256 := by simp [tabA]
theorem tabA_get (k i : Nat) (h : i < 256) : (tabA k)[i]? = some (if i < k then c32v (C.tab i) else c32v 0#32) := by
  simp [tabA, h]
theorem tabA_set (k : Nat) (h : k < 256) : (tabA k).setIfInBounds k (c32v (C.tab k)) = tabA (k + 1) := by
  apply Array.ext_getElem?
  intro i
  rw [Array.getElem?_setIfInBounds]
  by_cases hi : i < 256
  · rw [tabA_get _ _ hi, tabA_get _ _ hi]
    by_cases hk : k = i
    · subst hk; simp [tabA_size, hi]
    · simp only [hk, if_false]
      by_cases h2 : i < k
      · rw [if_pos h2, if_pos (by omega)]
      · rw [if_neg h2, if_neg (by omega)]
  · have h1 : (tabA k)[i]? = none := Array.getElem?_eq_none (by rw [tabA_size]; omega)
    have h2 : (tabA (k + 1))[i]? = none := Array.getElem?_eq_none (by rw [tabA_size]; omega)
    rw [h1, h2, if_neg (by omega)]
theorem tabA_all (k : Nat) : (tabA k).all (·.oneCell') = true := by
  rw [Array.all_eq_true_iff_forall_mem]
  intro v hv
  simp only [tabA, List.mem_toArray, List.mem_map] at hv
  obtain ⟨b, _, rfl⟩ := hv
  split <;> rfl
theorem fresh_tab (w : World) : (Instr.alloc 109 true (.tuple #[])).run Try.prog w = .ok (.pointer (some ⟨w.heap.size, 0, none⟩)) (w.alloc (.cells (tabA 0) 109)) := by kernel_rfl
theorem size_tab (k : Nat) : (Try.prog.info? 109).map (·.size) = some (tabA k).size := by rw [tabA_size]; kernel_rfl
theorem and_bit0 (x : Nat) (h : x % 2 = 0) (hx : x < 4294967296) : bits .and .u32 (x : Int) 1 = 0 := by
  have := u32_and_nat x 1 hx (by omega)
  rw [show ((1 : Nat) : Int) = 1 from rfl] at this
  rw [this, Nat.and_one_is_mod, h]; rfl
theorem and_bit1 (x : Nat) (h : x % 2 = 1) (hx : x < 4294967296) : bits .and .u32 (x : Int) 1 = 1 := by
  have := u32_and_nat x 1 hx (by omega)
  rw [show ((1 : Nat) : Int) = 1 from rfl] at this
  rw [this, Nat.and_one_is_mod, h]; rfl
theorem stp_walk (x : BitVec 32) : bits .xor .u32 ((x.toNat : Int) / 2) (bits .and .u32 3988292384 (-bits .and .u32 (x.toNat : Int) 1 % 4294967296)) = ((C.stp x).toNat : Int) := by
  have hx : x.toNat < 4294967296 := x.isLt
  have hx2 : ((x.toNat : Int) / 2) = ((x.toNat / 2 : Nat) : Int) := by omega
  rcases Nat.mod_two_eq_zero_or_one x.toNat with h0 | h1
  · rw [and_bit0 _ h0 hx, C.stp_even x h0]
    have e : bits .and .u32 3988292384 (-0 % 4294967296) = 0 := by decide
    rw [e, hx2]
    have := u32_xor_nat (x.toNat / 2) 0 (by omega) (by omega)
    rw [Nat.xor_zero] at this
    exact this
  · rw [and_bit1 _ h1 hx, C.stp_odd x h1]
    have e : bits .and .u32 3988292384 (-1 % 4294967296) = 3988292384 := by decide
    rw [e, hx2]
    exact u32_xor_nat (x.toNat / 2) 3988292384 (by omega) (by omega)
set_option maxRecDepth 100000 in
set_option maxHeartbeats 2000000 in
/-- seal.table. -/
theorem table_any (w : World) : Calls Try.prog 67 #[] w fun e w' => e = .returned (.agg (tabA 256)) ∧ Below w.heap.size w w' := by
  go_enter Try.func67, Try.ntmps67
  go_wp2_with (refine wpList_fresh (by rfl) 109 (by rfl) _ fresh_tab ?_; simp only [Act.put, List.setIfInBounds_toArray, List.set_cons_succ, List.set_cons_zero]; try simp only [World.size_alloc])
  have b0 : Blk ((w.alloc (.cells (tabA 0) 109)).alloc (.cells (tabA 0) 109)) w.heap.size (tabA 0) 109 := heap_alloc2_old _ _ _
  have b1 : Blk ((w.alloc (.cells (tabA 0) 109)).alloc (.cells (tabA 0) 109)) (w.heap.size + 1) (tabA 0) 109 := heap_alloc2_new _ _ _
  have hB := ((Below.refl w.heap.size w).alloc (Nat.le_refl _) (.cells (tabA 0) 109)).alloc (by simp) (.cells (tabA 0) 109)
  go_loopw [4] (fun i wr => ∃ k : Nat, k ≤ 256 ∧ i = .int .i64 (k : Int) ∧ Blk wr w.heap.size (tabA 0) 109 ∧ Blk wr (w.heap.size + 1) (tabA k) 109 ∧ Below w.heap.size w wr) (fun i _ => 256 - (intOf i).toNat)
  case atStart => exact ⟨0, by omega, rfl, b0, b1, hB⟩
  case round =>
    obtain ⟨k, hk, rfl, c0, c1, hB⟩ := hrel
    clear b0 b1
    by_cases hlt : k < 256
    · have d1 : decide ((k : Int) < 256) = true := by simp; omega
      have hz : (C.stps 0 (BitVec.ofNat 32 k)).toNat = k := by
        show (BitVec.ofNat 32 k).toNat = k
        rw [BitVec.toNat_ofNat, Nat.mod_eq_of_lt (by omega)]
      have Hz := Lib.hid hz
      clear hz
      go_wp2
      go_loop [3, 9] (fun c j => ∃ m : Nat, m ≤ 8 ∧ j = .int .i64 (m : Int) ∧ c = c32v (C.stps m (BitVec.ofNat 32 k))) (fun _ j => 8 - (intOf j).toNat)
      case atStart => exact ⟨0, by omega, rfl, by unfold c32v; rw [Hz.out]⟩
      case round =>
        obtain ⟨m, hm, rfl, rfl⟩ := hrel
        by_cases hm8 : m < 8
        · have d2 : decide ((m : Int) < 8) = true := by simp; omega
          have hs := C.stps_succ m (BitVec.ofNat 32 k)
          have Hs := Lib.hid hs
          clear hs
          generalize C.stps m (BitVec.ofNat 32 k) = x at Hs
          unfold c32v
          go_wp2
          refine ⟨⟨m + 1, by omega, by go_num, ?_⟩, by simp [intOf]; omega⟩
          rw [stp_walk, Hs.out]
        · obtain rfl : m = 8 := by omega
          have hset := tabA_set k hlt
          have Hset := Lib.hid hset
          clear hset
          have e8 : C.stps 8 (BitVec.ofNat 32 k) = C.tab k := rfl
          rw [e8]
          have k1 := c1.cellv (tabA_get k k hlt)
          have f1 := c1.free k
          have hk0 : (0 : Int) ≤ (k : Int) := by omega
          unfold c32v
          unfold c32v at Hset
          go_wp2
          have c12 := c1.set_ k (.int .u32 ((C.tab k).toNat : Int))
          rw [Hset.out] at c12
          go_roundw
          case rel => exact ⟨k + 1, by omega, by go_num, c0.far (by simp) _, c12, hB.setCell (by simp) _⟩
          case measure => simp [intOf]; omega
    · obtain rfl : k = 256 := by omega
      go_wp2_with (first | (refine wpList_load_blk (by rfl) 109 (.tmp 1) (by rfl) 0 (by rfl) (c1) (tabA 256) whole_at _ Try.underlying109 (by rfl) (size_tab 256) ?_; simp only [Act.put, List.setIfInBounds_toArray, List.set_cons_succ, List.set_cons_zero]) | ((refine wpList_store_blk (by rfl) 109 (.tmp 0) (.tmp 23) (by rfl) (0) (tabA 256) (by rfl) (by rfl) (c0) ((by rw [tabA_size, tabA_size]; omega)) (size_tab 256) (tabA_all _) ?_; simp only [Act.put]); intro w2 c2 o2))
      rw [splice_all _ _ (by rw [tabA_size, tabA_size])] at c2
      exact bodyPost_ret (v := .agg (tabA 256)) (results_blk (by rfl) _ c2 _ (by rfl) Try.underlying109 (by rfl) (size_tab 256)) rfl ⟨rfl, o2.below hB (Nat.le_refl _)⟩

theorem crc_walk (c : BitVec 32) (b : UInt8) : bits .xor .u32 ((C.tab ((c.toNat % 256) ^^^ b.toNat)).toNat : Int) ((c.toNat : Int) / 256) = ((C.crc c b).toNat : Int) := by
  have hx : c.toNat < 4294967296 := c.isLt
  have hx2 : ((c.toNat : Int) / 256) = ((c.toNat / 256 : Nat) : Int) := by omega
  rw [hx2, C.crc_tab]
  exact u32_xor_nat _ _ (C.tab _).isLt (by omega)
theorem not_walk (x : BitVec 32) : bits .xor .u32 IntKind.u32.max (x.toNat : Int) = ((~~~x).toNat : Int) := by
  have h := u32_xor_nat 4294967295 x.toNat (by omega) x.isLt
  have e : IntKind.u32.max = ((4294967295 : Nat) : Int) := by decide
  have h2 : (BitVec.allOnes 32 ^^^ x) = ~~~x := BitVec.allOnes_xor
  rw [e, h, ← h2, BitVec.toNat_xor]
  rfl
theorem ret_kind {k : IntKind} {a b : Int} (h : a = b) : Ending.returned (.int k a) = .returned (.int k b) := by rw [h]
theorem low_walk (c : BitVec 32) (b : UInt8) : bits .xor .u8 ((c.toNat : Int) % 256) (b.toNat : Int) = (((c.toNat % 256) ^^^ b.toNat : Nat) : Int) := by
  rw [show ((c.toNat : Int) % 256) = ((c.toNat % 256 : Nat) : Int) from by omega]
  exact u8_xor_nat _ _ (by omega) b.toNat_lt
set_option maxRecDepth 100000 in
set_option maxHeartbeats 2000000 in
/-- seal.Check. -/
theorem check_any (l : List UInt8) (hl : l.length ≤ 4611686018427387904) (w : World) :
    Calls Try.prog 22 #[.string ⟨l.toArray⟩] w fun e w' => e = .returned (.int .u32 ((C.check l).toNat : Int)) ∧ Below w.heap.size w w' := by
  go_enter Try.func22, Try.ntmps22
  go_wp2_with (first | (go_at_call 67; with_reducible refine (table_any _).mono ?_; rintro e w1 ⟨rfl, hb1⟩) | (refine wpList_fresh (by rfl) 109 (by rfl) _ fresh_tab ?_; simp only [Act.put, List.setIfInBounds_toArray, List.set_cons_succ, List.set_cons_zero]; try simp only [World.size_alloc]) | ((refine wpList_store_blk (by rfl) 109 (.tmp 3) (.tmp 7) (by rfl) (0) (tabA 256) (by rfl) (by rfl) ((Blk.new _ _ _)) ((by rw [tabA_size, tabA_size]; omega)) (size_tab 256) (tabA_all _) ?_; simp only [Act.put]); intro w2 c2 o2; rw [splice_all _ _ (by rw [tabA_size, tabA_size])] at c2; have hB := o2.below (hb1.alloc hb1.size _) hb1.size; obtain ⟨W, cap, hconv, hb3, hz3, hcap, hc3⟩ := bytes_law l w2 41 Try.underlying41; have Hc := Lib.hid hc3; have Hz := Lib.hid hz3; clear hc3 hz3))
  clear hconv
  replace c2 := c2.at_ hb3
  replace hB := hB.trans (hb3.mono hB.size)
  clear hb3
  go_loop [4, 11] (fun c i => ∃ k : Nat, k ≤ l.length ∧ i = .int .i64 (k : Int) ∧ c = c32v (C.sums (l.take k))) (fun _ i => l.length - (intOf i).toNat)
  case atStart => exact ⟨0, by omega, rfl, rfl⟩
  case round =>
    obtain ⟨k, hk, rfl, rfl⟩ := hrel
    by_cases hlt : k < l.length
    · have d1 : decide ((k : Int) < (l.length : Int)) = true := by simp; omega
      have hc := Hc.out k hlt
      have hcr := crc_walk (C.sums (l.take k)) (l.getD k 0)
      rw [← C.sums_take l k hlt] at hcr
      have hlo := low_walk (C.sums (l.take k)) (l.getD k 0)
      have hix := C.crc_idx (C.sums (l.take k)) (l.getD k 0)
      have hct := c2.cellv (tabA_get 256 _ hix)
      rw [if_pos hix] at hct
      unfold c32v at hct ⊢
      generalize hs2 : C.sums (l.take (k + 1)) = s2 at hcr
      have Hs2 := Lib.hid hs2
      clear hs2
      generalize (C.sums (l.take k)).toNat % 256 ^^^ (l.getD k 0).toNat = ix at hcr hlo hix hct
      generalize (l.getD k 0).toNat = b at hc hlo
      generalize (C.sums (l.take k)).toNat = x at hcr hlo
      have hi0 : (0 : Int) ≤ (ix : Int) := by omega
      have hi1 : (ix : Int) < 256 := by omega
      go_wp2
      exact ⟨⟨k + 1, by omega, by go_num, by rw [Hs2.out]⟩, by simp [intOf]; omega⟩
    · obtain rfl : k = l.length := by omega
      have hck : C.check l = ~~~ (C.sums (l.take l.length)) := by rw [List.take_length]; rfl
      have Hck := Lib.hid hck
      clear hck
      generalize C.sums (l.take l.length) = x at Hck
      unfold c32v
      go_wp2
      go_ret
      rw [Hck.out]
      exact ⟨ret_kind (not_walk x), hB⟩
end Go.Proofs.Ytknkbioalohofaa
