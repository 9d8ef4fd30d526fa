/- The walks of bits.Read and of the reference's. -/
import Derived.Test.YtokjmdlklhkjlaaWHex2
import Derived.Test.YtokjmdlklhkjlaaPureRead
import Derived.Test.YtokjmdlklhkjlaaWNext
namespace Go.Proofs.Ytokjmdlklhkjlaa
open Go.RowKit

/-- The label that is read; noughts: none. -/
def rdLab (s : List UInt8) : List UInt8 := (B.read s).getD zlab
def rdErr (s : List UInt8) : Int := if (B.read s).isSome then 0 else 4
theorem rdLab_length (s : List UInt8) : (rdLab s).length = 32 := by
  unfold rdLab
  cases h : B.read s with
  | none => rfl
  | some l => exact B.read_length h
theorem rd_none {s : List UInt8} (h : B.read s = none) : rdLab s = zlab ∧ rdErr s = 4 ∧ (B.read s).isSome = false := by unfold rdLab rdErr; rw [h]; exact ⟨rfl, rfl, rfl⟩
theorem rd_some {s l : List UInt8} (h : B.read s = some l) : rdLab s = l ∧ rdErr s = 0 ∧ (B.read s).isSome = true := by unfold rdLab rdErr; rw [h]; exact ⟨rfl, rfl, rfl⟩
theorem str_at (s : ByteArray) (i : Nat) (h : i < s.size) : (s[i]'h).toNat = (s.data.toList.getD i 0).toNat := by
  have h' : i < s.data.size := h
  rw [List.getD_eq_getElem?_getD, Array.getElem?_toList, Array.getElem?_eq_getElem h', Option.getD_some]; rfl
theorem str_len (s : ByteArray) : s.data.toList.length = s.size := by rw [Array.length_toList]; rfl

theorem or_shift (a b : Nat) (ha : a ≤ 15) (hb : b ≤ 15) : bits .or .u8 ((a : Int) * 16) (b : Int) = ((16 * a + b : Nat) : Int) := by
  have h := u8_or_nat (a * 16) b (by omega) (by omega)
  have e : a * 16 ||| b = 16 * a + b := by
    have := Nat.two_pow_add_eq_or_of_lt (i := 4) (b := b) (by omega) a
    rw [Nat.mul_comm a 16]; exact this.symm
  rw [e] at h
  rw [← h]; rfl
set_option maxHeartbeats 1000000 in
/-- bits.Read. -/
theorem read_any (s : ByteArray) (w : World) : Calls Try.prog 35 #[.string s] w fun e w' => e = .returned (.tuple #[.agg (labA (rdLab s.data.toList)), .int .i64 (rdErr s.data.toList)]) ∧ Below w.heap.size w w' := by
  have hz : ∀ l : List UInt8, l.length = 32 → (Try.prog.info? 23).map (·.size) = some (labA l).size := fun l hl => by rw [labA_size, hl]; kernel_rfl
  have hsl := str_len s
  by_cases h64 : s.size = 64
  · have hne : ((s.size : Int) != 64) = false := by rw [h64]; rfl
    go_enter Try.func35, Try.ntmps35
    go_wp2_with (first | (refine wpList_fresh (by rfl) 23 (by rfl) _ fresh_lab ?_; simp only [Act.put, List.setIfInBounds_toArray, List.set_cons_succ, List.set_cons_zero]; try simp only [World.size_alloc]))
    go_loopw [12] (fun v wr => ∃ k : Nat, k ≤ 32 ∧ v = .int .i64 (k : Int) ∧ B.OkTo s.data.toList k ∧ Blk wr w.heap.size (labA zlab) 23 ∧ Blk wr (w.heap.size + 1) (labA (B.rd s.data.toList k)) 23 ∧ Below w.heap.size w wr) (fun v _ => 32 - (intOf v).toNat)
    case atStart => exact ⟨0, by omega, by simp, B.OkTo.start _, heap_alloc2_old _ _ _, heap_alloc2_new _ _ _, ((Below.refl _ _).alloc (Nat.le_refl _) _).alloc (by simp) _⟩
    case round =>
      obtain ⟨k, hk, rfl, hok, b2, b4, hb⟩ := hrel
      have hrl := B.rd_length s.data.toList k hk
      by_cases hlt : k < 32
      · have e1 : IntKind.i64.wrap (2 * (k : Int)) = 2 * (k : Int) := IntWalk.i64_in _ (by omega)
        have e2 : IntKind.i64.wrap (2 * (k : Int) + 1) = 2 * (k : Int) + 1 := IntWalk.i64_in _ (by omega)
        have p1 : (0 : Int) ≤ 2 * (k : Int) := by omega
        have p2 : 2 * (k : Int) < (s.size : Int) := by omega
        have p3 : (0 : Int) ≤ 2 * (k : Int) + 1 := by omega
        have p4 : 2 * (k : Int) + 1 < (s.size : Int) := by omega
        have t1 : (2 * (k : Int)).toNat = 2 * k := by omega
        have t2 : (2 * (k : Int) + 1).toNat = 2 * k + 1 := by omega
        have g1 := str_at s (2 * k)
        have g2 := str_at s (2 * k + 1)
        have hno1 := @B.okAt_no1 s.data.toList k
        have hno2 := @B.okAt_no2 s.data.toList k
        have hyes := @B.okAt_yes s.data.toList k
        have hval := @B.valAt_toNat s.data.toList k
        have HD1 := Lib.hid (digit_any (s.data.toList.getD (2 * k) 0))
        have HD2 := Lib.hid (digit_any (s.data.toList.getD (2 * k + 1) 0))
        generalize B.dig (s.data.toList.getD (2 * k) 0) = D1 at HD1 hno1 hyes hval
        generalize B.dig (s.data.toList.getD (2 * k + 1) 0) = D2 at HD2 hno2 hyes hval
        generalize s.data.toList.getD (2 * k) 0 = c1 at g1 HD1
        generalize s.data.toList.getD (2 * k + 1) 0 = c2 at g2 HD2
        go_wp2
        refine wp_region_quiet_below (by kernel_rfl) (by kernel_rfl) ?_
        repeat (first | fail | go_big_quiet_step (first | with_reducible exact calls_regrown _ (fun W _ => HD1.out W) | with_reducible exact calls_regrown _ (fun W _ => HD2.out W) | fail))
        refine wpQuiet_nil ?_
        intro w1 hw1
        have hb1 := below_of_regrown hw1
        clear hw1
        have b21 := b2.at_ hb1
        have b41 := b4.at_ hb1
        have hbw := hb.trans (hb1.mono hb.size)
        clear b2 b4 hb hb1 g1 g2 e1 e2 p1 p2 p3 p4 t1 t2
        by_cases h1 : D1 ≤ 15
        · have d1 : decide ((15 : Int) < D1) = false := by simp; omega
          by_cases h2 : D2 ≤ 15
          · have d2 : decide ((15 : Int) < D2) = false := by simp; omega
            have hok1 := hok.next (hyes h1 h2)
            have hv := hval h1 h2
            have hor := or_shift D1 D2 h1 h2
            rw [show 16 * D1 + D2 = (B.valAt s.data.toList k).toNat from hv.symm] at hor
            have k4 := b41.cellv (labA_get (B.rd s.data.toList k) k (by omega))
            have f4 := b41.free k
            have hset := labA_set (B.rd s.data.toList k) k (B.valAt s.data.toList k)
            rw [B.rd_set _ _ hlt] at hset
            have Hset := Lib.hid hset
            have b42 := b41.set_ k (byteV (B.valAt s.data.toList k))
            rw [Hset.out] at b42
            have b22 := b21.far (p := ⟨w.heap.size + 1, k, none⟩) (by simp) (byteV (B.valAt s.data.toList k))
            have hbw2 := hbw.setCell (p := ⟨w.heap.size + 1, k, none⟩) (by simp) (byteV (B.valAt s.data.toList k))
            clear hset Hset hyes hval hno1 hno2 hv
            unfold byteV at b42 b22 hbw2
            generalize (B.valAt s.data.toList k).toNat = Y at hor b42 b22 hbw2
            go_wp2
            go_roundw
            case rel => exact ⟨k + 1, by omega, by go_num, hok1, b22, b42, hbw2⟩
            case measure => simp [intOf]; omega
          · have d2 : decide ((15 : Int) < D2) = true := by simp; omega
            have hr := Lib.hid (rd_none (B.read_bad hlt (hno2 h2)))
            clear hno1 hno2 hyes hval h2
            go_wp2_with (first | (refine wpList_zero (by rfl) 23 (by rfl) _ build_lab ?_; simp only [Act.put, List.setIfInBounds_toArray, List.set_cons_succ, List.set_cons_zero]) | ((refine wpList_store_blk (by rfl) 23 (.tmp 2) (.tmp 32) (by rfl) (0) (labA zlab) (by rfl) (by rfl) (b21) (by rw [labA_size]; omega) (hz _ zlab_length) (labA_all _) ?_; simp only [Act.put]); intro w5 b5 o5))
            rw [splice_all _ _ rfl] at b5
            refine bodyPost_ret (v := .tuple #[.agg (labA zlab), .int .i64 4]) (results_blk2 (by rfl) _ b5 _ _ (by rfl) (by rfl) Try.underlying23 (by rfl) (hz _ zlab_length)) rfl ⟨?_, o5.below hbw (by omega)⟩
            rw [hr.out.1, hr.out.2.1]
        · have d1 : decide ((15 : Int) < D1) = true := by simp; omega
          have hr := Lib.hid (rd_none (B.read_bad hlt (hno1 h1)))
          clear hno1 hno2 hyes hval h1
          go_wp2_with (first | (refine wpList_zero (by rfl) 23 (by rfl) _ build_lab ?_; simp only [Act.put, List.setIfInBounds_toArray, List.set_cons_succ, List.set_cons_zero]) | ((refine wpList_store_blk (by rfl) 23 (.tmp 2) (.tmp 32) (by rfl) (0) (labA zlab) (by rfl) (by rfl) (b21) (by rw [labA_size]; omega) (hz _ zlab_length) (labA_all _) ?_; simp only [Act.put]); intro w5 b5 o5))
          rw [splice_all _ _ rfl] at b5
          refine bodyPost_ret (v := .tuple #[.agg (labA zlab), .int .i64 4]) (results_blk2 (by rfl) _ b5 _ _ (by rfl) (by rfl) Try.underlying23 (by rfl) (hz _ zlab_length)) rfl ⟨?_, o5.below hbw (by omega)⟩
          rw [hr.out.1, hr.out.2.1]
      · have hk32 : k = 32 := by omega
        subst hk32
        have hr := Lib.hid (rd_some (B.read_some (hsl.trans h64) hok))
        go_wp2_with (first | (refine wpList_load_blk (by rfl) 23 (.tmp 4) (by rfl) 0 (by rfl) (b4) (labA (B.rd s.data.toList 32)) whole_at _ Try.underlying23 (by rfl) (hz _ hrl) ?_; simp only [Act.put, List.setIfInBounds_toArray, List.set_cons_succ, List.set_cons_zero]) | ((refine wpList_store_blk (by rfl) 23 (.tmp 2) (.tmp 40) (by rfl) (0) (labA (B.rd s.data.toList 32)) (by rfl) (by rfl) (b2) (by rw [labA_size, labA_size, hrl, zlab_length]; omega) (hz _ hrl) (labA_all _) ?_; simp only [Act.put]); intro w5 b5 o5))
        rw [splice_all _ _ (by rw [labA_size, labA_size, hrl, zlab_length])] at b5
        refine bodyPost_ret (v := .tuple #[.agg (labA (B.rd s.data.toList 32)), .int .i64 0]) (results_blk2 (by rfl) _ b5 _ _ (by rfl) (by rfl) Try.underlying23 (by rfl) (hz _ hrl)) rfl ⟨?_, o5.below hb (by omega)⟩
        rw [hr.out.1, hr.out.2.1]
  · have hne : ((s.size : Int) != 64) = true := by rw [bne_iff_ne]; omega
    have hr := Lib.hid (rd_none (B.read_len (by omega : s.data.toList.length ≠ 64)))
    have hb := ((Below.refl w.heap.size w).alloc (Nat.le_refl _) (.cells (labA zlab) 23)).alloc (by simp) (.cells (labA zlab) 23)
    have b2 : Blk ((w.alloc (.cells (labA zlab) 23)).alloc (.cells (labA zlab) 23)) w.heap.size (labA zlab) 23 := heap_alloc2_old _ _ _
    go_enter Try.func35, Try.ntmps35
    go_wp2_with (first | (refine wpList_fresh (by rfl) 23 (by rfl) _ fresh_lab ?_; simp only [Act.put, List.setIfInBounds_toArray, List.set_cons_succ, List.set_cons_zero]; try simp only [World.size_alloc]) | (refine wpList_zero (by rfl) 23 (by rfl) _ build_lab ?_; simp only [Act.put, List.setIfInBounds_toArray, List.set_cons_succ, List.set_cons_zero]) | ((refine wpList_store_blk (by rfl) 23 (.tmp 2) (.tmp 11) (by rfl) (0) (labA zlab) (by rfl) (by rfl) (b2) (by rw [labA_size]; omega) (hz _ zlab_length) (labA_all _) ?_; simp only [Act.put]); intro w5 b5 o5))
    rw [splice_all _ _ rfl] at b5
    refine bodyPost_ret (v := .tuple #[.agg (labA zlab), .int .i64 4]) (results_blk2 (by rfl) _ b5 _ _ (by rfl) (by rfl) Try.underlying23 (by rfl) (hz _ zlab_length)) rfl ⟨?_, o5.below hb (by omega)⟩
    rw [hr.out.1, hr.out.2.1]
end Go.Proofs.Ytokjmdlklhkjlaa
