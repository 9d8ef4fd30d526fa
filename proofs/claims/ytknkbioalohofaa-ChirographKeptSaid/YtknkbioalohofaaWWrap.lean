/- The walks of seal.Wrap and of the reference's. -/
import Derived.Test.YtknkbioalohofaaWCheck
namespace Go.Proofs.Ytknkbioalohofaa
open Go.RowKit

theorem u8_of (n : Nat) (x : Int) (h : x = (n : Int) % 256) : Value.int .u8 x = byteV (UInt8.ofNat n) := by
  unfold byteV
  rw [h, UInt8.toNat_ofNat']
  rfl
theorem head_cells (n : Nat) (h : n ≤ 65536) : #[Value.int .u8 94, .int .u8 ((n : Int) / 65536), .int .u8 ((n : Int) / 256 % 256), .int .u8 ((n : Int) % 256)] = ((C.head n).map byteV).toArray := by
  unfold C.head
  simp only [List.map_cons, List.map_nil]
  rw [u8_of (n / 65536) ((n : Int) / 65536) (by omega), u8_of (n / 256) ((n : Int) / 256 % 256) (by omega), u8_of n ((n : Int) % 256) rfl]
  rfl
theorem four_cells (n : Nat) (h : n < 4294967296) : #[Value.int .u8 ((n : Int) / 16777216), .int .u8 ((n : Int) / 65536 % 256), .int .u8 ((n : Int) / 256 % 256), .int .u8 ((n : Int) % 256)] = ((C.four n).map byteV).toArray := by
  unfold C.four
  simp only [List.map_cons, List.map_nil]
  rw [u8_of (n / 16777216) ((n : Int) / 16777216) (by omega), u8_of (n / 65536) ((n : Int) / 65536 % 256) (by omega), u8_of (n / 256) ((n : Int) / 256 % 256) (by omega), u8_of n ((n : Int) % 256) rfl]
set_option maxRecDepth 100000 in
set_option maxHeartbeats 2000000 in
/-- seal.Wrap. -/
theorem wrap_any (l : List UInt8) (hl : l.length ≤ 65536) (w : World) :
    Calls Try.prog 20 #[.string ⟨l.toArray⟩] w fun e w' => e = .returned (.tuple #[.string ⟨(C.wrap l).toArray⟩, .int .i64 0]) ∧ Below w.heap.size w w' := by
  have hz := str_size l
  have hzi : ((⟨l.toArray⟩ : ByteArray).size : Int) = (l.length : Int) := by rw [hz]
  have H1 := Lib.hid (check_any (C.head l.length ++ l) (by simp [C.head]; omega))
  have hadd := str_add (C.head l.length) l (by simp [C.head]; omega)
  have hb0 := buf_build w (C.head l.length) _ 4 (head_cells l.length hl) rfl (by omega)
  have hcv := hb0.string Try.underlying41 Try.underlying9
  have hres : C.wrap l = C.head l.length ++ C.four (C.check (C.head l.length ++ l)).toNat ++ l := by unfold C.wrap; rw [List.append_assoc]
  generalize C.check (C.head l.length ++ l) = c at H1 hres
  have hadd2 := str_add (C.head l.length ++ C.four c.toNat) l (by simp [C.head, C.four]; omega)
  rw [← hres] at hadd2
  have hn : (l.length : Int) ≤ 65536 := by omega
  have Hfc := Lib.hid (four_cells c.toNat c.isLt)
  have hcb := c.isLt
  have d1 : decide ((65536 : Int) < (l.length : Int)) = false := by simp; omega
  clear hz hl hres
  generalize C.wrap l = R at hadd2
  generalize l.length = N at *
  generalize (⟨l.toArray⟩ : ByteArray) = S at *
  go_enter Try.func20, Try.ntmps20
  go_wp2_with (first | (go_at_call 22; with_reducible refine (H1.out _).mono ?_; rintro e w1 ⟨rfl, hb1⟩) | (at_builtin; refine wpList_append_buf rfl (.tmp 26) (.tmp 38) 41 rfl Try.underlying41 rfl ((hb0.at_ hb1).alloc _) ⟨w1.heap.size, 0, none⟩ 4 4 (C.four c.toNat) rfl rfl (cells_new _ _ _ Hfc.out _) (by simp [C.head]) ?_; intro v1 w2 hb2 hg2 hr2; have hcv2 := hb2.string Try.underlying41 Try.underlying9))
  go_ret2
  have hB1 := (below_alloc1 w _).trans (hb1.mono (by simp))
  have hs1 := hb1.size
  simp only [World.size_alloc] at hs1
  refine ⟨rfl, below_grown (hB1.alloc (by omega) _) ?_ hg2 ?_⟩
  · simp only [World.size_alloc]; omega
  · intro k hk
    have hk' : some w.heap.size = some k := hk
    injection hk' with hk'
    omega
set_option maxHeartbeats 400000 in
/-- seal.Wrap of a text that is too long. -/
theorem wrap_big (l : List UInt8) (hl : 65536 < l.length) (w : World) :
    Calls Try.prog 20 #[.string ⟨l.toArray⟩] w fun e w' => e = .returned (.tuple #[.string ⟨#[]⟩, .int .i64 2]) ∧ w = w' := by
  have hz := str_size l
  have d1 : decide ((65536 : Int) < ((⟨l.toArray⟩ : ByteArray).size : Int)) = true := by rw [hz]; simp; omega
  have d2 : decide (65536 < (⟨l.toArray⟩ : ByteArray).size) = true := by rw [hz]; simp; omega
  clear hz hl
  generalize (⟨l.toArray⟩ : ByteArray) = S at *
  go_enter Try.func20, Try.ntmps20
  go_wp2
  go_ret2
  exact ⟨rfl, rfl⟩
set_option maxHeartbeats 400000 in
/-- The reference's four bytes of a number. -/
theorem rfour_any (x : Nat) (hx : x < 4294967296) (w : World) :
    Calls Try.prog 68 #[.int .u32 (x : Int)] w fun e w' => e = .returned (.string ⟨(C.four x).toArray⟩) ∧ Below w.heap.size w w' := by
  have hb0 := buf_build w (C.four x) _ 4 (four_cells x hx) rfl (by omega)
  have hcv := hb0.string Try.underlying41 Try.underlying9
  go_enter Try.func68, Try.ntmps68
  go_wp2
  go_ret
  exact ⟨rfl, below_alloc1 _ _⟩
theorem bitwise_walk (d : BitVec 32) (b : UInt8) (k : Nat) :
    bits .and .u32 (bits .xor .u32 (d.toNat : Int) ((b.toNat : Int) / 2 ^ k)) 1 = (if (d ^^^ (C.w8 b >>> k)).getLsbD 0 then 1 else 0) := by
  have hd : d.toNat < 4294967296 := d.isLt
  have hb := b.toNat_lt
  have e1 : ((b.toNat : Int) / 2 ^ k) = ((b.toNat / 2 ^ k : Nat) : Int) := by rw [Int.natCast_ediv, Int.natCast_pow]; rfl
  have hs : b.toNat / 2 ^ k < 4294967296 := Nat.lt_of_le_of_lt (Nat.div_le_self _ _) (by omega)
  have e2 : (d ^^^ (C.w8 b >>> k)).toNat = d.toNat ^^^ (b.toNat / 2 ^ k) := by
    rw [BitVec.toNat_xor, BitVec.toNat_ushiftRight, C.w8_toNat, Nat.shiftRight_eq_div_pow]
  rw [e1, u32_xor_nat _ _ hd hs, ← e2, C.lsb_mod]
  have hlt : (d ^^^ (C.w8 b >>> k)).toNat < 4294967296 := (d ^^^ (C.w8 b >>> k)).isLt
  generalize (d ^^^ (C.w8 b >>> k)).toNat = y at hlt
  rcases Nat.mod_two_eq_zero_or_one y with h0 | h1
  · rw [and_bit0 y h0 hlt, h0]; rfl
  · rw [and_bit1 y h1 hlt, h1]; rfl
theorem bitwise_one (d : BitVec 32) : bits .xor .u32 ((d.toNat : Int) / 2) 3988292384 = ((d >>> 1 ^^^ 3988292384#32).toNat : Int) := by
  have hd : d.toNat < 4294967296 := d.isLt
  have h := u32_xor_nat (d.toNat / 2) 3988292384 (by omega) (by omega)
  rw [show ((d.toNat : Int) / 2) = ((d.toNat / 2 : Nat) : Int) from by omega, BitVec.toNat_xor, BitVec.toNat_ushiftRight, Nat.shiftRight_eq_div_pow]
  exact h
theorem bitwise_none (d : BitVec 32) : ((d.toNat : Int) / 2) = ((d >>> 1).toNat : Int) := by
  rw [BitVec.toNat_ushiftRight, Nat.shiftRight_eq_div_pow]
  omega
set_option maxRecDepth 100000 in
set_option maxHeartbeats 2000000 in
/-- The reference's Check. -/
theorem rcheck_any (l : List UInt8) (hl : l.length ≤ 4611686018427387904) (w : World) :
    Calls Try.prog 23 #[.string ⟨l.toArray⟩] w fun e w' => e = .returned (.int .u32 ((C.check l).toNat : Int)) ∧ w = w' := by
  have hz := str_size l
  have Hix := Lib.hid (fun k h w => str_index l k h w .i64)
  generalize (⟨l.toArray⟩ : ByteArray) = S at *
  go_enter Try.func23, Try.ntmps23
  go_wp2
  go_loop [3, 4] (fun c i => ∃ k : Nat, k ≤ l.length ∧ i = .int .i64 (k : Int) ∧ c = c32v (C.sums (l.take k))) (fun _ i => l.length - (intOf i).toNat)
  case atStart => exact ⟨0, by omega, rfl, rfl⟩
  case round =>
    obtain ⟨k, hk, rfl, rfl⟩ := hrel
    by_cases hlt : k < l.length
    · have d1 : decide ((k : Int) < (S.size : Int)) = true := by rw [hz]; simp; omega
      have d1' : decide (k < S.size) = true := by rw [hz]; simp; omega
      have hix := Hix.out k hlt
      have Hs := Lib.hid (C.sums_take l k hlt)
      have hcl : (k : Int) ≤ 4611686018427387904 := by omega
      generalize C.sums (l.take k) = c0 at Hs
      generalize l.getD k 0 = b at hix Hs
      go_wp2
      go_loop [3, 5] (fun c j => ∃ m : Nat, m ≤ 8 ∧ j = .int .i64 (m : Int) ∧ c = c32v (C.bitwise c0 (C.w8 b) m)) (fun _ j => 8 - (intOf j).toNat)
      case atStart => exact ⟨0, by omega, rfl, rfl⟩
      case round =>
        obtain ⟨m, hm, rfl, rfl⟩ := hrel
        by_cases hm8 : m < 8
        · have d2 : decide ((m : Int) < 8) = true := by simp; omega
          have hm0 : (0 : Int) ≤ (m : Int) := by omega
          have hbw := bitwise_walk (C.bitwise c0 (C.w8 b) m) b m
          have hnx : C.bitwise c0 (C.w8 b) (m + 1) = (C.bitwise c0 (C.w8 b) m >>> 1) ^^^ (if (C.bitwise c0 (C.w8 b) m ^^^ (C.w8 b >>> m)).getLsbD 0 then 0xedb88320#32 else 0#32) := rfl
          generalize hd2 : C.bitwise c0 (C.w8 b) (m + 1) = d2' at hnx
          have Hd2 := Lib.hid hd2
          have hbb : (b.toNat : Int) < 256 := by have := b.toNat_lt; omega
          clear hd2
          generalize C.bitwise c0 (C.w8 b) m = d at hbw hnx
          cases hbit : (d ^^^ (C.w8 b >>> m)).getLsbD 0 with
          | true =>
            rw [hbit] at hbw hnx
            simp only [if_true] at hbw hnx
            have Hnx := Lib.hid hnx
            clear hnx hbit
            unfold c32v
            go_wp2
            refine ⟨⟨m + 1, by omega, by go_num, ?_⟩, by simp [intOf]; omega⟩
            rw [Hd2.out, Hnx.out, ← bitwise_one]
          | false =>
            rw [hbit] at hbw hnx
            simp only [Bool.false_eq_true, if_false, BitVec.xor_zero] at hbw hnx
            have Hnx := Lib.hid hnx
            clear hnx hbit
            unfold c32v
            go_wp2
            refine ⟨⟨m + 1, by omega, by go_num, ?_⟩, by simp [intOf]; omega⟩
            rw [Hd2.out, Hnx.out, ← bitwise_none]
            rfl
        · obtain rfl : m = 8 := by omega
          have e8 := C.bitwise_crc c0 b
          have E8 := Lib.hid (e8.trans Hs.out.symm)
          clear e8
          generalize C.bitwise c0 (C.w8 b) 8 = d at E8
          unfold c32v
          go_wp2
          exact ⟨⟨k + 1, by omega, by go_num, by rw [E8.out]; rfl⟩, by simp [intOf]; omega⟩
    · obtain rfl : k = l.length := by omega
      have d1 : decide ((l.length : Int) < (S.size : Int)) = false := by rw [hz]; simp
      have d1' : decide (l.length < S.size) = false := by rw [hz]; simp
      have hck : C.check l = ~~~ (C.sums (l.take l.length)) := by rw [List.take_length]; rfl
      have hn : ((~~~ (C.sums (l.take l.length))).toNat : Int) = 4294967295 - ((C.sums (l.take l.length)).toNat : Int) := by
        rw [BitVec.toNat_not]
        have := (C.sums (l.take l.length)).isLt
        omega
      rw [← hck] at hn
      have Hck := Lib.hid hn
      have hx := (C.sums (l.take l.length)).isLt
      clear hck hn
      generalize (C.sums (l.take l.length)) = x at Hck hx
      unfold c32v
      go_wp2
      go_ret
      rw [Hck.out]
      exact ⟨rfl, rfl⟩
end Go.Proofs.Ytknkbioalohofaa
