/- The walk of a prefix that grows by a bit: bits.Next. -/
import Derived.Test.YtokjmdlklhkjlaaWHas
namespace Go.Proofs.Ytokjmdlklhkjlaa
open Go.RowKit

theorem zero29 (w : World) : (zeroValue 29).run Try.prog w = .ok (.agg (prefA 0 zlab)) w := by kernel_rfl
theorem prefA_head (n k : Int) (l : List UInt8) : splice (prefA k l) 0 #[.int .i64 n] = prefA n l := by
  unfold splice prefA; simp
theorem prefA_tail (n : Int) (l m : List UInt8) (h : l.length = m.length) : splice (prefA n l) 1 (labA m) = prefA n m := by
  have := prefA_splice n l m
  rw [show (m.map byteV).toArray = labA m from rfl] at this
  rw [this, List.drop_of_length_le (by omega), List.append_nil]
/-- A prefix put together. -/
theorem build_pref2 (n : Int) (l : List UInt8) (hl : l.length = 32) (w : World) : (Instr.build 29 #[(0, .int .i64 n), (1, .agg (labA l))]).run Try.prog w = .ok (.agg (prefA n l)) w := by
  refine run_build_struct (places := #[(0, 1), (1, 32)]) w zero29 Try.underlying29 (fun _ => by kernel_rfl) ?_
  rw [fill_cons _ _ 0 _ _ 0 1 #[.int .i64 n] rfl rfl rfl (by rw [prefA_size]; omega), prefA_head]
  rw [fill_cons _ _ 1 _ _ 1 32 (labA l) rfl rfl (by rw [labA_size, hl]) (by rw [prefA_size, zlab_length]; omega), prefA_tail _ _ _ (by rw [zlab_length, hl])]
  rfl

/-- May the prefix grow by this bit? -/
def mayGrow (n : Int) (p : List UInt8) (b : Int) : Bool := B.good n p && decide (n < 256) && decide (0 ≤ b) && decide (b ≤ 1)

set_option maxHeartbeats 1000000 in
/-- bits.Next, where the prefix may not grow. -/
theorem next_no (n : Int) (hn : (Lit.int .i64 n).wf = true) (p : List UInt8) (hp : p.length = 32) (b : Int) (h : mayGrow n p b = false) (w : World) :
    Calls Try.prog 19 #[.agg (prefA n p), .int .i64 b] w fun e w' => e = .returned (.tuple #[.agg (prefA 0 zlab), .int .i64 1]) ∧ Below w.heap.size w w' := by
  have hzp : (Try.prog.info? 29).map (·.size) = some (prefA n p).size := by rw [prefA_size, hp]; kernel_rfl
  have hz0 : (Try.prog.info? 29).map (·.size) = some (prefA 0 zlab).size := by rw [prefA_size, zlab_length]; kernel_rfl
  have b0 : Blk ((w.alloc (.cells (prefA n p) 29)).alloc (.cells (prefA 0 zlab) 29)) w.heap.size (prefA n p) 29 := heap_alloc2_old _ _ _
  have b1 : Blk ((w.alloc (.cells (prefA n p) 29)).alloc (.cells (prefA 0 zlab) 29)) (w.heap.size + 1) (prefA 0 zlab) 29 := heap_alloc2_new _ _ _
  have hgc := good_any n hn p hp
  unfold mayGrow at h
  cases hg : B.good n p with
  | false =>
    rw [hg] at hgc
    have Hg := Lib.hid hgc
    clear hgc h
    go_enter Try.func19, Try.ntmps19
    go_wp2_with (first | (refine wpList_fresh (by rfl) 29 (by rfl) _ fresh_pref ?_; simp only [Act.put, List.setIfInBounds_toArray, List.set_cons_succ, List.set_cons_zero]; try simp only [World.size_alloc]) | (refine wpList_zero (by rfl) 29 (by rfl) _ build_pref ?_; simp only [Act.put, List.setIfInBounds_toArray, List.set_cons_succ, List.set_cons_zero]) | (refine wpList_load_blk (by rfl) 29 (.tmp 2) (by rfl) 0 (by rfl) (b0) (prefA n p) whole_at _ Try.underlying29 (by rfl) hzp ?_; simp only [Act.put, List.setIfInBounds_toArray, List.set_cons_succ, List.set_cons_zero]) | (go_at_call 25; with_reducible refine (Hg.out _).mono ?_; rintro e w1 ⟨rfl, hb1⟩; have b01 := b0.at_ hb1; have b11 := b1.at_ hb1; have k0 := b01.cellv (prefA_0 n p)) | ((refine wpList_store_blk (by rfl) 29 (.tmp 4) (.tmp 23) (by rfl) (0) (prefA 0 zlab) (by rfl) (by rfl) (b11) (by rw [prefA_size]; omega) hz0 (prefA_all _ _) ?_; simp only [Act.put]); intro w4 b14 o4))
    rw [splice_all _ _ rfl] at b14
    refine bodyPost_ret (v := .tuple #[.agg (prefA 0 zlab), .int .i64 1]) (results_blk2 (by rfl) _ b14 _ _ (by rfl) (by rfl) Try.underlying29 (by rfl) hz0) rfl ⟨rfl, o4.below ((((Below.refl _ _).alloc (Nat.le_refl _) _).alloc (by simp) _).trans (hb1.mono (by simp; omega))) (by omega)⟩
  | true =>
    rw [hg] at hgc h
    have Hg := Lib.hid hgc
    clear hgc hg
    rcases Int.lt_or_le n 256 with h1 | h1
    · have d1 : decide (256 ≤ n) = false := by simp; omega
      rcases Int.lt_or_le b 0 with h2 | h2
      · have d2 : decide (b < 0) = true := by simpa using h2
        clear h
        go_enter Try.func19, Try.ntmps19
        go_wp2_with (first | (refine wpList_fresh (by rfl) 29 (by rfl) _ fresh_pref ?_; simp only [Act.put, List.setIfInBounds_toArray, List.set_cons_succ, List.set_cons_zero]; try simp only [World.size_alloc]) | (refine wpList_zero (by rfl) 29 (by rfl) _ build_pref ?_; simp only [Act.put, List.setIfInBounds_toArray, List.set_cons_succ, List.set_cons_zero]) | (refine wpList_load_blk (by rfl) 29 (.tmp 2) (by rfl) 0 (by rfl) (b0) (prefA n p) whole_at _ Try.underlying29 (by rfl) hzp ?_; simp only [Act.put, List.setIfInBounds_toArray, List.set_cons_succ, List.set_cons_zero]) | (go_at_call 25; with_reducible refine (Hg.out _).mono ?_; rintro e w1 ⟨rfl, hb1⟩; have b01 := b0.at_ hb1; have b11 := b1.at_ hb1; have k0 := b01.cellv (prefA_0 n p)) | ((refine wpList_store_blk (by rfl) 29 (.tmp 4) (.tmp 23) (by rfl) (0) (prefA 0 zlab) (by rfl) (by rfl) (b11) (by rw [prefA_size]; omega) hz0 (prefA_all _ _) ?_; simp only [Act.put]); intro w4 b14 o4))
        rw [splice_all _ _ rfl] at b14
        refine bodyPost_ret (v := .tuple #[.agg (prefA 0 zlab), .int .i64 1]) (results_blk2 (by rfl) _ b14 _ _ (by rfl) (by rfl) Try.underlying29 (by rfl) hz0) rfl ⟨rfl, o4.below ((((Below.refl _ _).alloc (Nat.le_refl _) _).alloc (by simp) _).trans (hb1.mono (by simp; omega))) (by omega)⟩
      · have d2 : decide (b < 0) = false := by simp; omega
        have d3 : decide (1 < b) = true := by
          rw [decide_eq_true h1, decide_eq_true h2] at h
          simpa using h
        clear h
        go_enter Try.func19, Try.ntmps19
        go_wp2_with (first | (refine wpList_fresh (by rfl) 29 (by rfl) _ fresh_pref ?_; simp only [Act.put, List.setIfInBounds_toArray, List.set_cons_succ, List.set_cons_zero]; try simp only [World.size_alloc]) | (refine wpList_zero (by rfl) 29 (by rfl) _ build_pref ?_; simp only [Act.put, List.setIfInBounds_toArray, List.set_cons_succ, List.set_cons_zero]) | (refine wpList_load_blk (by rfl) 29 (.tmp 2) (by rfl) 0 (by rfl) (b0) (prefA n p) whole_at _ Try.underlying29 (by rfl) hzp ?_; simp only [Act.put, List.setIfInBounds_toArray, List.set_cons_succ, List.set_cons_zero]) | (go_at_call 25; with_reducible refine (Hg.out _).mono ?_; rintro e w1 ⟨rfl, hb1⟩; have b01 := b0.at_ hb1; have b11 := b1.at_ hb1; have k0 := b01.cellv (prefA_0 n p)) | ((refine wpList_store_blk (by rfl) 29 (.tmp 4) (.tmp 23) (by rfl) (0) (prefA 0 zlab) (by rfl) (by rfl) (b11) (by rw [prefA_size]; omega) hz0 (prefA_all _ _) ?_; simp only [Act.put]); intro w4 b14 o4))
        rw [splice_all _ _ rfl] at b14
        refine bodyPost_ret (v := .tuple #[.agg (prefA 0 zlab), .int .i64 1]) (results_blk2 (by rfl) _ b14 _ _ (by rfl) (by rfl) Try.underlying29 (by rfl) hz0) rfl ⟨rfl, o4.below ((((Below.refl _ _).alloc (Nat.le_refl _) _).alloc (by simp) _).trans (hb1.mono (by simp; omega))) (by omega)⟩
    · have d1 : decide (256 ≤ n) = true := by simpa using h1
      clear h
      go_enter Try.func19, Try.ntmps19
      go_wp2_with (first | (refine wpList_fresh (by rfl) 29 (by rfl) _ fresh_pref ?_; simp only [Act.put, List.setIfInBounds_toArray, List.set_cons_succ, List.set_cons_zero]; try simp only [World.size_alloc]) | (refine wpList_zero (by rfl) 29 (by rfl) _ build_pref ?_; simp only [Act.put, List.setIfInBounds_toArray, List.set_cons_succ, List.set_cons_zero]) | (refine wpList_load_blk (by rfl) 29 (.tmp 2) (by rfl) 0 (by rfl) (b0) (prefA n p) whole_at _ Try.underlying29 (by rfl) hzp ?_; simp only [Act.put, List.setIfInBounds_toArray, List.set_cons_succ, List.set_cons_zero]) | (go_at_call 25; with_reducible refine (Hg.out _).mono ?_; rintro e w1 ⟨rfl, hb1⟩; have b01 := b0.at_ hb1; have b11 := b1.at_ hb1; have k0 := b01.cellv (prefA_0 n p)) | ((refine wpList_store_blk (by rfl) 29 (.tmp 4) (.tmp 23) (by rfl) (0) (prefA 0 zlab) (by rfl) (by rfl) (b11) (by rw [prefA_size]; omega) hz0 (prefA_all _ _) ?_; simp only [Act.put]); intro w4 b14 o4))
      rw [splice_all _ _ rfl] at b14
      refine bodyPost_ret (v := .tuple #[.agg (prefA 0 zlab), .int .i64 1]) (results_blk2 (by rfl) _ b14 _ _ (by rfl) (by rfl) Try.underlying29 (by rfl) hz0) rfl ⟨rfl, o4.below ((((Below.refl _ _).alloc (Nat.le_refl _) _).alloc (by simp) _).trans (hb1.mono (by simp; omega))) (by omega)⟩

set_option maxHeartbeats 2000000 in
/-- bits.Next, where the prefix grows. -/
theorem next_yes (N : Nat) (p : List UInt8) (hp : p.length = 32) (b : Nat) (hb01 : b ≤ 1) (hN : N < 256) (hgood : B.good N p = true) (w : World) :
    Calls Try.prog 19 #[.agg (prefA N p), .int .i64 b] w fun e w' => e = .returned (.tuple #[.agg (prefA ((N : Int) + 1) (B.nextB N p b)), .int .i64 0]) ∧ Below w.heap.size w w' := by
  have hzp : ∀ (k : Int) (q : List UInt8), q.length = 32 → (Try.prog.info? 29).map (·.size) = some (prefA k q).size := fun k q hq => by rw [prefA_size, hq]; kernel_rfl
  have hz23 : (Try.prog.info? 23).map (·.size) = some (labA p).size := by rw [labA_size, hp]; kernel_rfl
  have b0 : Blk ((w.alloc (.cells (prefA N p) 29)).alloc (.cells (prefA 0 zlab) 29)) w.heap.size (prefA N p) 29 := heap_alloc2_old _ _ _
  have b1 : Blk ((w.alloc (.cells (prefA N p) 29)).alloc (.cells (prefA 0 zlab) 29)) (w.heap.size + 1) (prefA 0 zlab) 29 := heap_alloc2_new _ _ _
  have hgc := good_any N (by go_wf) p hp
  rw [hgood] at hgc
  have Hg := Lib.hid hgc
  clear hgc hgood
  have d1 : decide ((256 : Int) ≤ N) = false := by simp; omega
  have d2 : decide ((b : Int) < 0) = false := by simp
  have d3 : decide ((1 : Int) < b) = false := by simp; omega
  go_enter Try.func19, Try.ntmps19
  go_wp2_with (first | (refine wpList_fresh (by rfl) 29 (by rfl) _ fresh_pref ?_; simp only [Act.put, List.setIfInBounds_toArray, List.set_cons_succ, List.set_cons_zero]; try simp only [World.size_alloc]) | (refine wpList_load_blk (by rfl) 29 (.tmp 2) (by rfl) 0 (by rfl) (b0) (prefA N p) whole_at _ Try.underlying29 (by rfl) (hzp N p hp) ?_; simp only [Act.put, List.setIfInBounds_toArray, List.set_cons_succ, List.set_cons_zero]) | (go_at_call 25; with_reducible refine (Hg.out _).mono ?_; rintro e w1 ⟨rfl, hb1⟩; have b01 := b0.at_ hb1; have b11 := b1.at_ hb1; have k0 := b01.cellv (prefA_0 N p)) | (refine wpList_load_blk (by rfl) 23 (.tmp 27) (by rfl) (1) (by rfl) (b01) (labA p) (prefA_lab N p) _ Try.underlying23 (by rfl) hz23 ?_; simp only [Act.put, List.setIfInBounds_toArray, List.set_cons_succ, List.set_cons_zero]) | (refine wpList_build (by rfl) 29 ([(0, .tmp 26), (1, .tmp 28)]) (by rfl) ([(0, .int .i64 ((N : Int) + 1)), (1, .agg (labA p))]) (by rfl) (.agg (prefA ((N : Int) + 1) p)) (build_pref2 _ _ hp) ?_; simp only [Act.put, List.setIfInBounds_toArray, List.set_cons_succ, List.set_cons_zero]) | ((refine wpList_store_blk (by rfl) 29 (.tmp 6) (.tmp 29) (by rfl) (0) (prefA ((N : Int) + 1) p) (by rfl) (by rfl) ((Blk.new w1 _ _)) (by rw [prefA_size, prefA_size, zlab_length, hp]; omega) (hzp _ p hp) (prefA_all _ _) ?_; simp only [Act.put]); intro w4 b24 o4; rw [splice_all _ _ (by rw [prefA_size, prefA_size, zlab_length, hp])] at b24; have b04 := (b01.alloc (.cells (prefA 0 zlab) 29)).only o4 (by have := hb1.size; simp at this; omega); have b14 := (b11.alloc (.cells (prefA 0 zlab) 29)).only o4 (by have := hb1.size; simp at this; omega)))
  try simp only [Act.put, List.setIfInBounds_toArray, List.set_cons_succ, List.set_cons_zero]
  have hb4 : Below w.heap.size w w4 := o4.below (((((Below.refl _ _).alloc (Nat.le_refl _) _).alloc (by simp) _).trans (hb1.mono (by simp; omega))).alloc (by have := hb1.size; simp at this; omega) _) (by have := hb1.size; simp at this; omega)
  have hg2 : w.heap.size + 2 ≤ w1.heap.size := by have := hb1.size; simp at this; omega
  generalize w1.heap.size = g2 at b24 hg2
  clear o4 k0 b01 b11 hb1 b0 b1
  have k0 := b04.cellv (prefA_0 N p)
  have k1 := b24.cellv (prefA_get ((N : Int) + 1) p (N / 8) (by omega))
  have hq : (0 : Int) ≤ (N : Int) / 8 := by omega
  have hq2 : (N : Int) / 8 < 32 := by omega
  have hq3 : IntKind.i64.wrap ((N : Int) / 8) = (N : Int) / 8 := IntWalk.i64_in _ (by omega)
  have hq4 : ((N : Int) / 8).toNat = N / 8 := by omega
  have hq5 : (N : Int).tmod 8 = ((N % 8 : Nat) : Int) := by rw [Int.tmod_eq_emod_of_nonneg (by omega)]; omega
  have hq6 : N % 8 ≤ 7 := by omega
  have hq7 : IntKind.i64.wrap (7 - ((N % 8 : Nat) : Int)) = ((7 - N % 8 : Nat) : Int) := by rw [show (7 : Int) - ((N % 8 : Nat) : Int) = ((7 - N % 8 : Nat) : Int) from by omega]; exact IntWalk.i64_in _ (by omega)
  have hset := prefA_set ((N : Int) + 1) p (N / 8) (p.getD (N / 8) 0 ||| UInt8.ofNat (b * 2 ^ (7 - N % 8)))
  rw [B.nextB_set p N b hb01] at hset
  unfold byteV at hset
  obtain ⟨hor, hlt⟩ := B.nextB_byte p N b hb01
  have hx := (p.getD (N / 8) 0).toNat_lt
  have hbits := u8_or_nat (p.getD (N / 8) 0).toNat (b * 2 ^ (7 - N % 8)) hx hlt
  rw [← hor] at hbits
  have hwr : IntKind.u8.wrap (IntKind.i64.wrap ((b : Int) * 2 ^ (7 - N % 8))) = ((b * 2 ^ (7 - N % 8) : Nat) : Int) := by
    have e : (b : Int) * 2 ^ (7 - N % 8) = ((b * 2 ^ (7 - N % 8) : Nat) : Int) := by rw [Int.natCast_mul, Int.natCast_pow]; rfl
    rw [e]
    generalize b * 2 ^ (7 - N % 8) = V at hlt
    rw [IntWalk.i64_in _ (by omega), IntKind.wrap_u8']; omega
  generalize (p.getD (N / 8) 0 ||| UInt8.ofNat (b * 2 ^ (7 - N % 8))).toNat = Y at hset hor hbits
  clear hor
  generalize (p.getD (N / 8) 0).toNat = x at k1 hx hbits
  generalize b * 2 ^ (7 - N % 8) = V at hbits hwr hlt
  have hS : 7 - N % 8 ≤ 7 := by omega
  generalize 7 - N % 8 = S at hq7 hS hwr
  generalize N % 8 = R at hq5 hq6 hq7
  have Hset := Lib.hid hset
  have hnl := B.nextB_length hp N b
  clear hset
  go_still_tail 16, (by kernel_rfl)
  clear hq hq2 hq3 hq4 hq5 hq6 hq7 hS hwr hbits hlt hx k0 k1
  change wpList _ _ _ _ _ w4.drew
  have b15 : Blk w4.drew (w.heap.size + 1) (prefA 0 zlab) 29 := b14
  have b25 : Blk w4.drew g2 (prefA ((N : Int) + 1) p) 29 := b24
  have hb5 : Below w.heap.size w w4.drew := hb4.drew
  generalize w4.drew = w5 at b15 b25 hb5
  clear b04 b14 b24 hb4
  have c5 := b25.cellv (prefA_get ((N : Int) + 1) p (N / 8) (by omega))
  have f5 := b25.free (1 + N / 8)
  go_wp2_with (first | (refine wpList_load_blk (by rfl) 29 (.tmp 6) (by rfl) 0 (by rfl) ((by have h9 := b25.set_ (1 + N / 8) (.int .u8 (Y : Int)); rw [Hset.out] at h9; exact h9)) (prefA ((N : Int) + 1) (B.nextB N p b)) whole_at _ Try.underlying29 (by rfl) (hzp _ _ hnl) ?_; simp only [Act.put, List.setIfInBounds_toArray, List.set_cons_succ, List.set_cons_zero]) | ((refine wpList_store_blk (by rfl) 29 (.tmp 4) (.tmp 46) (by rfl) (0) (prefA ((N : Int) + 1) (B.nextB N p b)) (by rfl) (by rfl) ((b15.far (p := ⟨g2, 1 + N / 8, none⟩) (by simp; omega) _)) (by rw [prefA_size, prefA_size, hnl, zlab_length]; omega) (hzp _ _ hnl) (prefA_all _ _) ?_; simp only [Act.put]); intro w6 b16 o6))
  rw [splice_all _ _ (by rw [prefA_size, prefA_size, hnl, zlab_length])] at b16
  exact bodyPost_ret (v := .tuple #[.agg (prefA ((N : Int) + 1) (B.nextB N p b)), .int .i64 0]) (results_blk2 (by rfl) _ b16 _ _ (by rfl) (by rfl) Try.underlying29 (by rfl) (hzp _ _ hnl)) rfl ⟨rfl, o6.below (hb5.setCell (by simp; omega) _) (by omega)⟩
end Go.Proofs.Ytokjmdlklhkjlaa
