/- Plain laws about the cyclic sum of texts: by bits, by a table, and that up to four changed bytes, one behind the other, change it. No program in sight. -/
import Derived.Lib.Bytealg
namespace Go.Proofs.Ytknkbioalohofaa
namespace C

/-- One bit's step of the cyclic sum. -/
def stp (c : BitVec 32) : BitVec 32 := (c >>> 1) ^^^ (if c.getLsbD 0 then 0xedb88320#32 else 0#32)
theorem stp_xor (x y : BitVec 32) : stp (x ^^^ y) = stp x ^^^ stp y := by
  unfold stp
  rw [BitVec.getLsbD_xor, BitVec.ushiftRight_xor_distrib]
  cases x.getLsbD 0 <;> cases y.getLsbD 0 <;> simp only [Bool.xor_false, Bool.xor_true, Bool.not_true, Bool.not_false, if_true, if_false, Bool.false_eq_true, BitVec.xor_zero]
  · ac_rfl
  · ac_rfl
  · rw [show x >>> 1 ^^^ 3988292384#32 ^^^ (y >>> 1 ^^^ 3988292384#32) = x >>> 1 ^^^ y >>> 1 ^^^ (3988292384#32 ^^^ 3988292384#32) from by ac_rfl, BitVec.xor_self, BitVec.xor_zero]
theorem stp_zero : stp 0#32 = 0#32 := by decide
theorem stp_inj0 (x : BitVec 32) (h : stp x = 0#32) : x = 0#32 := by
  unfold stp at h
  cases hb : x.getLsbD 0 with
  | true =>
    rw [hb, if_pos rfl] at h
    have := congrArg (fun v : BitVec 32 => v.getLsbD 31) h
    simp only [BitVec.getLsbD_xor, BitVec.getLsbD_ushiftRight] at this
    rw [BitVec.getLsbD_of_ge x (1 + 31) (by omega)] at this
    exact absurd this (by decide)
  | false =>
    rw [hb] at h
    simp only [Bool.false_eq_true, if_false, BitVec.xor_zero] at h
    apply BitVec.eq_of_getLsbD_eq
    intro i hi
    rcases i with _ | i
    · rw [hb]; simp
    · have := congrArg (fun v : BitVec 32 => v.getLsbD i) h
      simp only [BitVec.getLsbD_ushiftRight] at this
      rw [Nat.add_comm 1 i] at this
      simpa using this
/-- k steps. -/
def stps : Nat → BitVec 32 → BitVec 32
  | 0, c => c
  | k + 1, c => stps k (stp c)
theorem stps_xor : ∀ (k : Nat) (x y : BitVec 32), stps k (x ^^^ y) = stps k x ^^^ stps k y
  | 0, _, _ => rfl
  | k + 1, x, y => by show stps k (stp (x ^^^ y)) = _; rw [stp_xor, stps_xor k]; rfl
theorem stps_add : ∀ (j k : Nat) (x : BitVec 32), stps k (stps j x) = stps (j + k) x
  | 0, k, x => by simp [stps]
  | j + 1, k, x => by rw [show j + 1 + k = (j + k) + 1 from by omega]; exact stps_add j k (stp x)
theorem stps_zero : ∀ k : Nat, stps k 0#32 = 0#32
  | 0 => rfl
  | k + 1 => by show stps k (stp 0#32) = _; rw [stp_zero]; exact stps_zero k
theorem stps_inj0 : ∀ (k : Nat) (x : BitVec 32), stps k x = 0#32 → x = 0#32
  | 0, _, h => h
  | k + 1, x, h => stp_inj0 x (stps_inj0 k (stp x) h)

theorem shl_one (y : BitVec 32) (k : Nat) (hy : y.toNat < 2 ^ (31 - k)) (hk : k < 32) : stp (y <<< (k + 1)) = y <<< k := by
  unfold stp
  have h0 : (y <<< (k + 1)).getLsbD 0 = false := by simp
  rw [h0]
  simp only [Bool.false_eq_true, if_false, BitVec.xor_zero]
  apply BitVec.eq_of_getLsbD_eq
  intro i hi
  rw [BitVec.getLsbD_ushiftRight, BitVec.getLsbD_shiftLeft, BitVec.getLsbD_shiftLeft]
  by_cases hik : i < k
  · simp [hik, show (1 + i < k + 1) from by omega]
  · have e : 1 + i - (k + 1) = i - k := by omega
    rw [e]
    by_cases h31 : 1 + i < 32
    · have h1 : ¬ (1 + i < k + 1) := by omega
      simp [h1, hik, h31, hi]
    · have hz : y.getLsbD (i - k) = false := by
        rw [BitVec.getLsbD, Nat.testBit_lt_two_pow]
        exact Nat.lt_of_lt_of_le hy (Nat.pow_le_pow_right (by omega) (by omega))
      rw [hz]; simp
theorem shl_steps (y : BitVec 32) : ∀ k : Nat, k ≤ 8 → y.toNat < 2 ^ 24 → stps k (y <<< k) = y
  | 0, _, _ => by simp [stps]
  | k + 1, hk, hy => by
    show stps k (stp (y <<< (k + 1))) = y
    rw [shl_one y k (Nat.lt_of_lt_of_le hy (Nat.pow_le_pow_right (by omega) (by omega))) (by omega)]
    exact shl_steps y k (by omega) hy

/-- The eight steps of a byte. -/
def st8 (c : BitVec 32) : BitVec 32 := stps 8 c
/-- A byte as a word. -/
def w8 (b : UInt8) : BitVec 32 := BitVec.ofNat 32 b.toNat
theorem w8_toNat (b : UInt8) : (w8 b).toNat = b.toNat := by
  have := b.toNat_lt
  simp only [w8, BitVec.toNat_ofNat]; omega
theorem w8_xor (a b : UInt8) : w8 a ^^^ w8 b = w8 (a ^^^ b) := by
  apply BitVec.eq_of_toNat_eq
  rw [BitVec.toNat_xor, w8_toNat, w8_toNat, w8_toNat, UInt8.toNat_xor]
theorem w8_inj {a b : UInt8} (h : w8 a = w8 b) : a = b := by
  have := congrArg BitVec.toNat h
  rw [w8_toNat, w8_toNat] at this
  exact UInt8.toNat_inj.1 this
/-- A byte is taken into the sum. -/
def crc (c : BitVec 32) (b : UInt8) : BitVec 32 := st8 (c ^^^ w8 b)
/-- The cyclic sum of a text. -/
def check (l : List UInt8) : BitVec 32 := ~~~ (l.foldl crc (BitVec.allOnes 32))

theorem low_high (x : BitVec 32) : x = (x &&& 255#32) ^^^ ((x >>> 8) <<< 8) := by
  apply BitVec.eq_of_getLsbD_eq
  intro i hi
  rw [BitVec.getLsbD_xor, BitVec.getLsbD_and, BitVec.getLsbD_shiftLeft, BitVec.getLsbD_ushiftRight]
  have h255 : (255#32).getLsbD i = decide (i < 8) := by
    have : ∀ i : Fin 32, (255#32).getLsbD i.val = decide (i.val < 8) := by decide
    exact this ⟨i, hi⟩
  rw [h255]
  by_cases h8 : i < 8
  · simp [h8]
  · have : 8 + (i - 8) = i := by omega
    simp [h8, hi, this]
/-- By a table: what the low byte does, and the others moved down. -/
theorem st8_table (x : BitVec 32) : st8 x = st8 (x &&& 255#32) ^^^ (x >>> 8) := by
  have h := congrArg st8 (low_high x)
  refine h.trans ?_
  unfold st8
  rw [stps_xor, shl_steps (x >>> 8) 8 (Nat.le_refl _)]
  have : x.toNat < 2 ^ 32 := x.isLt
  rw [BitVec.toNat_ushiftRight, Nat.shiftRight_eq_div_pow]
  omega

/-- The bits of a byte, taken one by one as the reference does. -/
def bitwise (c : BitVec 32) (b : BitVec 32) : Nat → BitVec 32
  | 0 => c
  | k + 1 => let d := bitwise c b k
    (d >>> 1) ^^^ (if (d ^^^ (b >>> k)).getLsbD 0 then 0xedb88320#32 else 0#32)
theorem bitwise_stps (c b : BitVec 32) : ∀ k : Nat, bitwise c b k ^^^ (b >>> k) = stps k (c ^^^ b)
  | 0 => by simp [bitwise, stps]
  | k + 1 => by
    have ih := bitwise_stps c b k
    have e : stps (k + 1) (c ^^^ b) = stp (stps k (c ^^^ b)) := by rw [show stp (stps k (c ^^^ b)) = stps 1 (stps k (c ^^^ b)) from rfl, stps_add]
    rw [e, ← ih]
    show ((bitwise c b k) >>> 1) ^^^ (if (bitwise c b k ^^^ (b >>> k)).getLsbD 0 then 0xedb88320#32 else 0#32) ^^^ (b >>> (k + 1)) = _
    unfold stp
    rw [BitVec.ushiftRight_xor_distrib, BitVec.shiftRight_add]
    ac_rfl
theorem bitwise_crc (c : BitVec 32) (b : UInt8) : bitwise c (w8 b) 8 = crc c b := by
  have := bitwise_stps c (w8 b) 8
  have hz : (w8 b) >>> 8 = 0#32 := by
    apply BitVec.eq_of_toNat_eq
    rw [BitVec.toNat_ushiftRight, w8_toNat, Nat.shiftRight_eq_div_pow]
    have := b.toNat_lt
    simp; omega
  rw [hz, BitVec.xor_zero] at this
  exact this

/-- What stands between the sums of two texts. -/
def gap : BitVec 32 → List (BitVec 32) → BitVec 32
  | d, [] => d
  | d, e :: r => gap (st8 (d ^^^ e)) r
theorem fold_gap : ∀ (u v : List UInt8) (c d : BitVec 32), u.length = v.length → u.foldl crc c ^^^ v.foldl crc d = gap (c ^^^ d) (List.zipWith (fun a b => w8 (a ^^^ b)) u v)
  | [], [], c, d, _ => rfl
  | a :: u, b :: v, c, d, h => by
    show u.foldl crc (crc c a) ^^^ v.foldl crc (crc d b) = gap (st8 (c ^^^ d ^^^ w8 (a ^^^ b))) _
    rw [fold_gap u v _ _ (by simpa using h)]
    congr 1
    unfold crc st8
    rw [← stps_xor, ← w8_xor]
    congr 1; ac_rfl
  | [], _ :: _, _, _, h => by simp at h
  | _ :: _, [], _, _, h => by simp at h
def pack : List (BitVec 32) → BitVec 32
  | [] => 0#32
  | e :: r => e ^^^ (pack r <<< 8)
theorem pack_lt : ∀ (l : List (BitVec 32)) (k : Nat), l.length ≤ k → k ≤ 3 → (∀ e ∈ l, e.toNat < 256) → (pack l).toNat < 2 ^ (8 * k)
  | [], k, _, _, _ => by simp [pack]; exact Nat.two_pow_pos _
  | e :: r, 0, h, _, _ => by simp at h
  | e :: r, k + 1, h, hk, he => by
    have ih := pack_lt r k (by simpa using h) (by omega) (fun x hx => he x (List.mem_cons_of_mem _ hx))
    have h1 := he e (List.mem_cons_self ..)
    show (e ^^^ (pack r <<< 8)).toNat < _
    rw [BitVec.toNat_xor]
    refine Nat.xor_lt_two_pow (Nat.lt_of_lt_of_le h1 (by rw [show (256 : Nat) = 2 ^ 8 from rfl]; exact Nat.pow_le_pow_right (by omega) (by omega))) ?_
    rw [BitVec.toNat_shiftLeft, Nat.shiftLeft_eq]
    refine Nat.lt_of_le_of_lt (Nat.mod_le _ _) ?_
    rw [show 8 * (k + 1) = 8 * k + 8 from by omega, Nat.pow_add]
    exact Nat.mul_lt_mul_of_pos_right ih (by decide)
theorem gap_pack : ∀ (l : List (BitVec 32)) (d : BitVec 32), l.length ≤ 4 → (∀ e ∈ l, e.toNat < 256) → gap d l = stps (8 * l.length) (d ^^^ pack l)
  | [], d, _, _ => by simp [gap, pack, stps]
  | e :: r, d, h, he => by
    have hr : ∀ x ∈ r, x.toNat < 256 := fun x hx => he x (List.mem_cons_of_mem _ hx)
    show gap (st8 (d ^^^ e)) r = _
    rw [gap_pack r _ (by simp at h; omega) hr]
    have hp := pack_lt r 3 (by simpa using h) (by omega) hr
    have e1 : st8 (d ^^^ e) ^^^ pack r = stps 8 (d ^^^ (e ^^^ (pack r <<< 8))) := by
      unfold st8
      rw [show d ^^^ (e ^^^ (pack r <<< 8)) = (d ^^^ e) ^^^ (pack r <<< 8) from by ac_rfl, stps_xor 8 (d ^^^ e), shl_steps _ 8 (Nat.le_refl _) (by simpa using hp)]
    rw [e1, stps_add]
    congr 1
    simp; omega
theorem pack_zero : ∀ (l : List (BitVec 32)), l.length ≤ 4 → (∀ e ∈ l, e.toNat < 256) → pack l = 0#32 → ∀ e ∈ l, e = 0#32
  | [], _, _, _ => by simp
  | e :: r, h, he, hz => by
    have hr : ∀ x ∈ r, x.toNat < 256 := fun x hx => he x (List.mem_cons_of_mem _ hx)
    have h1 := he e (List.mem_cons_self ..)
    have hp := pack_lt r 3 (by simpa using h) (by omega) hr
    have hz' : e ^^^ (pack r <<< 8) = 0#32 := hz
    have e8 : (pack r <<< 8).toNat = (pack r).toNat * 256 := by
      rw [BitVec.toNat_shiftLeft, Nat.shiftLeft_eq, Nat.mod_eq_of_lt (by omega)]
    have hx : e = pack r <<< 8 := by
      have := congrArg (· ^^^ (pack r <<< 8)) hz'
      simpa [BitVec.xor_assoc] using this
    have hn := congrArg BitVec.toNat hx
    rw [e8] at hn
    have hp0 : (pack r).toNat = 0 := by omega
    have hpr : pack r = 0#32 := BitVec.eq_of_toNat_eq (by simpa using hp0)
    have hall := pack_zero r (by simp at h; omega) hr hpr
    intro x hm
    rcases List.mem_cons.1 hm with rfl | hm
    · apply BitVec.eq_of_toNat_eq; rw [hn, hp0]; rfl
    · exact hall x hm
theorem zip_zero : ∀ (u v : List UInt8), u.length = v.length → (∀ e ∈ List.zipWith (fun a b => w8 (a ^^^ b)) u v, e = 0#32) → u = v
  | [], [], _, _ => rfl
  | a :: u, b :: v, h, hz => by
    have h1 := hz (w8 (a ^^^ b)) (by simp)
    have h2 := zip_zero u v (by simpa using h) (fun e he => hz e (by simp only [List.zipWith_cons_cons]; exact List.mem_cons_of_mem _ he))
    have h3 : a ^^^ b = 0 := by
      apply w8_inj; rw [h1]; decide
    have h4 : a = b := by
      have := congrArg (· ^^^ b) h3
      simpa [UInt8.xor_assoc] using this
    rw [h4, h2]
  | [], _ :: _, h, _ => by simp at h
  | _ :: _, [], h, _ => by simp at h
theorem gap_same : ∀ (l : List UInt8) (d : BitVec 32), gap d (List.zipWith (fun a b => w8 (a ^^^ b)) l l) = stps (8 * l.length) d
  | [], d => rfl
  | a :: l, d => by
    show gap (st8 (d ^^^ w8 (a ^^^ a))) _ = _
    rw [gap_same l]
    have : w8 (a ^^^ a) = 0#32 := by rw [UInt8.xor_self]; decide
    rw [this, BitVec.xor_zero]
    unfold st8
    rw [stps_add]; congr 1; simp; omega
/-- Texts that part in at most four bytes, one behind the other, have other sums. -/
theorem burst (p u v q : List UInt8) (h : u.length = v.length) (h4 : u.length ≤ 4) (hne : u ≠ v) : check (p ++ u ++ q) ≠ check (p ++ v ++ q) := by
  intro he
  unfold check at he
  have he' := congrArg (fun x => ~~~ x) he
  simp only [BitVec.not_not] at he'
  rw [List.foldl_append, List.foldl_append, List.foldl_append, List.foldl_append] at he'
  generalize p.foldl crc (BitVec.allOnes 32) = c at he'
  have g1 := fold_gap q q (u.foldl crc c) (v.foldl crc c) rfl
  rw [he', BitVec.xor_self, gap_same] at g1
  have g2 := stps_inj0 _ _ g1.symm
  rw [fold_gap u v c c h, BitVec.xor_self] at g2
  have hb : ∀ e ∈ List.zipWith (fun a b => w8 (a ^^^ b)) u v, e.toNat < 256 := by
    intro e hm
    obtain ⟨i, hi, rfl⟩ := List.getElem_of_mem hm
    rw [List.getElem_zipWith, w8_toNat]
    exact UInt8.toNat_lt _
  have hl : (List.zipWith (fun a b => w8 (a ^^^ b)) u v).length ≤ 4 := by simp; omega
  rw [gap_pack _ _ hl hb, BitVec.zero_xor] at g2
  exact hne (zip_zero u v h (pack_zero _ hl hb (stps_inj0 _ _ g2)))
end C
end Go.Proofs.Ytknkbioalohofaa
