/- The walks of package bits and of its reference: labels' bits, order, what two have in common. -/
import Derived.Test.YtgjmnhbkdccgpaaKit
import Derived.Test.YtgjmnhbkdccgpaaPureHex
import Derived.Lib.BytesEntry
namespace Go.Proofs.Ytgjmnhbkdccgpaa
open Go.RowKit

theorem bit_fin (x s : Nat) (hx : x < 256) : bits .and .i64 (wrap64 ((x : Int) / 2 ^ s)) 1 = (((x.testBit s).toNat : Nat) : Int) := by
  have e : (x : Int) / 2 ^ s = ((x / 2 ^ s : Nat) : Int) := by rw [Int.natCast_ediv, Int.natCast_pow]; rfl
  have hle : x / 2 ^ s ≤ x := Nat.div_le_self _ _
  rw [e]
  generalize hy : x / 2 ^ s = y at hle
  rw [IntWalk.wrap64_in _ (by omega), show (1 : Int) = ((1 : Nat) : Int) from rfl, i64_and_nat _ _ (by omega) (by omega), Nat.and_one_is_mod, Nat.testBit_eq_decide_div_mod_eq, hy]
  have h2 : y % 2 = 0 ∨ y % 2 = 1 := by omega
  rcases h2 with h | h <;> simp [h]

set_option maxRecDepth 100000 in
set_option maxHeartbeats 400000 in
/-- The reference's Bit. -/
theorem rbit_in (l : List UInt8) (hl : l.length = 32) (i : Int) (h0 : 0 ≤ i) (h1 : i < 256) (w : World) :
    Calls Try.prog 111 #[.agg (labA l), .int .i64 i] w fun e w' => e = .returned (.int .i64 ((B.bit l i.toNat).toNat : Nat)) ∧ Below w.heap.size w w' := by
  have hc := labA_get l (i / 8).toNat (by omega)
  have hx := UInt8.toNat_lt (l.getD (i / 8).toNat 0)
  have hxe : (l.getD (i / 8).toNat 0).toNat.testBit (7 - i.toNat % 8) = B.bit l i.toNat := by
    unfold B.bit
    rw [show i.toNat / 8 = (i / 8).toNat from by omega]
  have Hxe := Lib.hid hxe
  clear hxe
  generalize (l.getD (i / 8).toNat 0).toNat = x at hc hx Hxe
  go_enter Try.func111, Try.ntmps111
  go_wp2
  go_loop [5, 6] (fun y j => ∃ k : Nat, i % 8 + (k : Int) ≤ 7 ∧ y = .int .i64 ((x / 2 ^ k : Nat) : Int) ∧ j = .int .i64 (i % 8 + (k : Int))) (fun _ j => (7 - intOf j).toNat)
  case atStart => exact ⟨0, by omega, by simp, by simp⟩
  case round =>
    obtain ⟨k, hk, rfl, rfl⟩ := hrel
    have hle : x / 2 ^ k ≤ x := Nat.div_le_self _ _
    have hs := Lib.hid (show x / 2 ^ (k + 1) = x / 2 ^ k / 2 from by rw [Nat.pow_succ, Nat.div_div_eq_div_mul])
    generalize hy : x / 2 ^ k = y at hle hs
    have Hy := Lib.hid hy
    clear hy
    by_cases hlt : i % 8 + (k : Int) < 7
    · go_wp2
      go_round
      case rel => exact ⟨k + 1, by omega, by rw [hs.out]; go_num, by go_num⟩
      case measure => simp [intOf]; omega
    · go_wp2
      go_ret
      refine ⟨ret_int ?_, (Below.refl _ _).alloc (Nat.le_refl _) _⟩
      rw [← Hxe.out, show 7 - i.toNat % 8 = k from by omega, Nat.testBit_eq_decide_div_mod_eq, Hy.out]
      have h2 : y % 2 = 0 ∨ y % 2 = 1 := by omega
      rcases h2 with h | h <;> simp [h] <;> omega
set_option maxRecDepth 100000 in
set_option maxHeartbeats 400000 in
/-- bytes.Compare of two slices of bytes that are known whole. -/
theorem rbit_out (l : List UInt8) (i : Int) (h : i < 0 ∨ 256 ≤ i) (w : World) :
    Calls Try.prog 111 #[.agg (labA l), .int .i64 i] w fun e w' => e = .returned (.int .i64 0) ∧ Below w.heap.size w w' := by
  rcases h with h | h
  all_goals
    go_enter Try.func111, Try.ntmps111
    go_wp2
    go_ret
    exact ⟨rfl, (Below.refl _ _).alloc (Nat.le_refl _) _⟩

set_option maxRecDepth 100000 in
set_option maxHeartbeats 1000000 in
/-- The reference's Common. -/
theorem rcmn_any (l m : List UInt8) (hl : l.length = 32) (hm : m.length = 32) (w : World) :
    Calls Try.prog 76 #[.agg (labA l), .agg (labA m)] w fun e w' => e = .returned (.int .i64 (B.cmn l m : Nat)) ∧ Below w.heap.size w w' := by
  have hz : (Try.prog.info? 25).map (·.size) = some (labA l).size := by rw [labA_size, hl]; kernel_rfl
  have hz' : (Try.prog.info? 25).map (·.size) = some (labA m).size := by rw [labA_size, hm]; kernel_rfl
  go_enter Try.func76, Try.ntmps76
  go_wp2
  go_loopw [5] (fun n wr => ∃ k : Nat, k ≤ 256 ∧ n = .int .i64 (k : Int) ∧ (∀ i, i < k → B.bit l i = B.bit m i) ∧ wr.heap[w.heap.size]? = some (.cells (labA l) 25 (0, 0)) ∧ wr.heap[w.heap.size + 1]? = some (.cells (labA m) 25 (0, 0)) ∧ Below w.heap.size w wr) (fun n _ => 256 - (intOf n).toNat)
  case atStart => exact ⟨0, by omega, by simp, by simp, heap_alloc2_old _ _ _, heap_alloc2_new _ _ _, ((Below.refl _ _).alloc (Nat.le_refl _) _).alloc (by simp) _⟩
  case round =>
    obtain ⟨k, hk, rfl, hsame, hA, hB, hbel⟩ := hrel
    have hd : decide ((k : Int) < 256) = decide (k < 256) := by by_cases h : k < 256 <;> simp [h] <;> omega
    by_cases hlt : k < 256
    · rw [decide_eq_true hlt] at hd
      have bl := rbit_in l hl (k : Int) (by omega) (by omega)
      have bm := rbit_in m hm (k : Int) (by omega) (by omega)
      rw [Int.toNat_natCast] at bl bm
      have Hbl := Lib.hid bl
      have Hbm := Lib.hid bm
      clear bl bm
      by_cases he : B.bit l k = B.bit m k
      · have hq : (((B.bit l k).toNat : Int) == ((B.bit m k).toNat : Int)) = true := by rw [he]; simp
        have He := Lib.hid he
        clear he
        go_wp2_with fail
        refine wp_region_quiet_below (by kernel_rfl) (by kernel_rfl) ?_
        repeat (first | (go_big_quiet_want; refine quiet_load_row 25 (.tmp 2) (by rfl) (w.heap.size) (by rfl) 25 (labA l) (0, 0) _ (heap_regrown hA) Try.underlying25 (by rfl) hz ?_; simp only [Act.put, List.setIfInBounds_toArray, List.set_cons_succ, List.set_cons_zero]; go_big_quiet_on) | (go_big_quiet_want; refine quiet_load_row 25 (.tmp 3) (by rfl) (w.heap.size + 1) (by rfl) 25 (labA m) (0, 0) _ (heap_regrown hB) Try.underlying25 (by rfl) hz' ?_; simp only [Act.put, List.setIfInBounds_toArray, List.set_cons_succ, List.set_cons_zero]; go_big_quiet_on) | go_big_quiet_step (first | with_reducible exact calls_regrown _ (fun W _ => Hbl.out W) | with_reducible exact calls_regrown _ (fun W _ => Hbm.out W) | fail))
        refine wpQuiet_nil ?_
        intro w1 hw1
        have hA1 := heap_regrown hA w1 hw1
        have hB1 := heap_regrown hB w1 hw1
        have hb1 := below_of_regrown hw1
        clear hw1
        go_wp2
        go_roundw
        case rel => exact ⟨k + 1, by omega, by go_num, fun i hi => by
          by_cases hik : i = k
          · rw [hik]; exact He.out
          · exact hsame i (by omega), hA1, hB1, hbel.trans (hb1.mono hbel.size)⟩
        case measure => simp [intOf]; omega
      · have hq : (((B.bit l k).toNat : Int) == ((B.bit m k).toNat : Int)) = false := by
          cases h1 : B.bit l k <;> cases h2 : B.bit m k <;> simp_all
        have He := Lib.hid (B.cmn_eq hk hsame (fun _ => he))
        clear he
        go_wp2_with fail
        refine wp_region_quiet_below (by kernel_rfl) (by kernel_rfl) ?_
        repeat (first | (go_big_quiet_want; refine quiet_load_row 25 (.tmp 2) (by rfl) (w.heap.size) (by rfl) 25 (labA l) (0, 0) _ (heap_regrown hA) Try.underlying25 (by rfl) hz ?_; simp only [Act.put, List.setIfInBounds_toArray, List.set_cons_succ, List.set_cons_zero]; go_big_quiet_on) | (go_big_quiet_want; refine quiet_load_row 25 (.tmp 3) (by rfl) (w.heap.size + 1) (by rfl) 25 (labA m) (0, 0) _ (heap_regrown hB) Try.underlying25 (by rfl) hz' ?_; simp only [Act.put, List.setIfInBounds_toArray, List.set_cons_succ, List.set_cons_zero]; go_big_quiet_on) | go_big_quiet_step (first | with_reducible exact calls_regrown _ (fun W _ => Hbl.out W) | with_reducible exact calls_regrown _ (fun W _ => Hbm.out W) | fail))
        refine wpQuiet_nil ?_
        intro w1 hw1
        have hb1 := below_of_regrown hw1
        clear hw1
        go_wp2
        go_ret
        exact ⟨ret_int (by rw [He.out]), hbel.trans (hb1.mono hbel.size)⟩
    · rw [decide_eq_false hlt] at hd
      have He := Lib.hid (B.cmn_eq hk hsame (fun h => absurd h hlt))
      go_wp2_with fail
      refine wp_region_quiet_below (by kernel_rfl) (by kernel_rfl) ?_
      repeat (first | (go_big_quiet_want; refine quiet_load_row 25 (.tmp 2) (by rfl) (w.heap.size) (by rfl) 25 (labA l) (0, 0) _ (heap_regrown hA) Try.underlying25 (by rfl) hz ?_; simp only [Act.put, List.setIfInBounds_toArray, List.set_cons_succ, List.set_cons_zero]; go_big_quiet_on) | (go_big_quiet_want; refine quiet_load_row 25 (.tmp 3) (by rfl) (w.heap.size + 1) (by rfl) 25 (labA m) (0, 0) _ (heap_regrown hB) Try.underlying25 (by rfl) hz' ?_; simp only [Act.put, List.setIfInBounds_toArray, List.set_cons_succ, List.set_cons_zero]; go_big_quiet_on) | go_big_quiet_step (first | with_reducible exact calls_regrown _ (fun W _ => Hbl.out W) | with_reducible exact calls_regrown _ (fun W _ => Hbm.out W) | fail))
      refine wpQuiet_nil ?_
      intro w1 hw1
      have hb1 := below_of_regrown hw1
      clear hw1
      go_wp2
      go_ret
      exact ⟨ret_int (by rw [He.out]), hbel.trans (hb1.mono hbel.size)⟩

theorem bytesOf_lab (l : List UInt8) : Lib.bytesOf (l.map fun b => (b.toNat : Int)) = l := by
  unfold Lib.bytesOf
  rw [List.map_map]
  refine (List.map_congr_left fun b _ => ?_).trans (List.map_id l)
  simp
theorem run_cmpSlices {P : Program} (w : World) (g h c d : Nat) (l m : List UInt8) (ts : TypeId) (hg : w.heap[g]? = some (.cells (labA l) ts (0, 0))) (hh : w.heap[h]? = some (.cells (labA m) ts (0, 0))) :
    (Extern.BytealgCompare.compare #[.slice (some ⟨g, 0, none⟩) l.length c, .slice (some ⟨h, 0, none⟩) m.length d]).run P w = .ok (.int .i64 (Lib.compareBytes l m)) w := by
  have key : ∀ (k : Nat) (x : List UInt8), w.heap[k]? = some (.cells (labA x) ts (0, 0)) → (Extern.Bytes.loadBytes ⟨k, 0, none⟩ x.length .empty).run P w = .ok ⟨x.toArray⟩ w := by
    intro k x hk
    have := Lib.run_loadBytesX (P := P) w (x.map fun b => (b.toNat : Int)) ⟨k, 0, none⟩ .empty (fun j y hy => by
      have hadd : (⟨k, 0, none⟩ : Addr).add j = ⟨k, j, none⟩ := by unfold Addr.add; split <;> simp_all
      rw [hadd, cell_of_row w k j _ ts (0, 0) hk]
      rw [List.getElem?_map] at hy
      rw [labA, List.getElem?_toArray, List.getElem?_map]
      cases hx : x[j]? with
      | none => rw [hx] at hy; simp at hy
      | some b => rw [hx] at hy; simp at hy; simp [byteV, hy])
    rw [List.length_map, bytesOf_lab] at this
    rw [this, show ByteArray.empty.data = #[] from rfl, Array.empty_append]
  change Sem.run P (do pure (goInt (Extern.BytealgCompare.cmp (← Extern.Bytes.bytesOf (.slice (some ⟨g, 0, none⟩) l.length c)) (← Extern.Bytes.bytesOf (.slice (some ⟨h, 0, none⟩) m.length d))))) w = _
  simp only [Extern.Bytes.bytesOf, Sem.run_bind, Sem.run_pure, key g l hg, key h m hh, Result.andThen]
  rw [Lib.cmp_eq]
  rfl

set_option maxRecDepth 100000 in
set_option maxHeartbeats 1000000 in
/-- bytes.Compare of two whole labels. -/
theorem bcompare_any (l m : List UInt8) (hl : l.length = 32) (hm : m.length = 32) (g h : Nat) (w : World) (hg : w.heap[g]? = some (.cells (labA l) 25 (0, 0))) (hh : w.heap[h]? = some (.cells (labA m) 25 (0, 0))) :
    Calls Try.prog 127 #[.slice (some ⟨g, 0, none⟩) 32 32, .slice (some ⟨h, 0, none⟩) 32 32] w fun e w' => e = .returned (.int .i64 (B.ord l m)) ∧ w' = w := by
  have hr := run_cmpSlices (P := Try.prog) w g h 32 32 l m 25 hg hh
  rw [hl, hm, B.compare_ord hl hm] at hr
  have Hr := Lib.hid hr
  clear hr
  go_enter Try.func127, Try.ntmps127
  go_wp2
  rw [run_callFunc_extern Try.func131 (by kernel_rfl) (by kernel_rfl) (by kernel_rfl) (e := Extern.BytealgCompare.compare) (by kernel_rfl), Hr.out]
  simp only [Result.andThen]
  rw [Oper.upon_value]
  go_wp2
  go_ret
  exact ⟨rfl, rfl⟩

set_option maxRecDepth 100000 in
set_option maxHeartbeats 1000000 in
/-- bits.Order. -/
theorem ord_any (l m : List UInt8) (hl : l.length = 32) (hm : m.length = 32) (w : World) :
    Calls Try.prog 108 #[.agg (labA l), .agg (labA m)] w fun e w' => e = .returned (.int .i64 (B.ord l m)) ∧ Below w.heap.size w w' := by
  go_enter Try.func108, Try.ntmps108
  go_wp2
  refine wp_region_quiet_below (by kernel_rfl) (by kernel_rfl) ?_
  repeat (first | fail | go_big_quiet_step (first | with_reducible exact calls_regrown _ (fun W hW => (bcompare_any l m hl hm _ _ W ((hW.block _ (by simp; omega)).trans (heap_alloc2_old _ _ _)) ((hW.block _ (by simp)).trans (heap_alloc2_new _ _ _))).mono fun e w' ⟨he, hw⟩ => ⟨he, hw ▸ Below.refl _ _⟩) | fail))
  refine wpQuiet_nil ?_
  intro w1 hw1
  have hb1 := below_of_regrown hw1
  clear hw1
  go_wp2
  go_ret
  exact ⟨rfl, (((Below.refl _ _).alloc (Nat.le_refl _) _).alloc (by simp) _).trans (hb1.mono (by simp; omega))⟩

set_option maxRecDepth 100000 in
set_option maxHeartbeats 1000000 in
/-- The reference's Order. -/
theorem rord_any (l m : List UInt8) (hl : l.length = 32) (hm : m.length = 32) (w : World) :
    Calls Try.prog 77 #[.agg (labA l), .agg (labA m)] w fun e w' => e = .returned (.int .i64 (B.ord l m)) ∧ Below w.heap.size w w' := by
  have hz : (Try.prog.info? 25).map (·.size) = some (labA l).size := by rw [labA_size, hl]; kernel_rfl
  have hz' : (Try.prog.info? 25).map (·.size) = some (labA m).size := by rw [labA_size, hm]; kernel_rfl
  have hle := B.cmn_le l m
  by_cases h : B.cmn l m = 256
  · have hd : (((B.cmn l m : Nat) : Int) == 256) = true := by rw [h]; rfl
    have ho := Lib.hid (show B.ord l m = 0 from by unfold B.ord; rw [if_pos h])
    clear h
    go_enter Try.func77, Try.ntmps77
    go_wp2_with (first | (refine wpList_load_blk (g := w.heap.size) (t := 25) (by rfl) 25 (.tmp 2) (by rfl) 0 (by rfl) (heap_alloc2_old _ _ _) (labA l) whole_at _ Try.underlying25 (by rfl) hz ?_; simp only [Act.put, List.setIfInBounds_toArray, List.set_cons_succ, List.set_cons_zero]) | (refine wpList_load_blk (g := w.heap.size + 1) (t := 25) (by rfl) 25 (.tmp 3) (by rfl) 0 (by rfl) (heap_alloc2_new _ _ _) (labA m) whole_at _ Try.underlying25 (by rfl) hz' ?_; simp only [Act.put, List.setIfInBounds_toArray, List.set_cons_succ, List.set_cons_zero]) | (go_at_call 76; with_reducible refine (rcmn_any l m hl hm _).mono ?_; rintro e w1 ⟨rfl, hb1⟩))
    go_ret
    exact ⟨ret_int (by rw [ho.out]), (((Below.refl _ _).alloc (Nat.le_refl _) _).alloc (by simp) _).trans (hb1.mono (by simp; omega))⟩
  · have hd : (((B.cmn l m : Nat) : Int) == 256) = false := by rw [beq_eq_false_iff_ne]; omega
    have hlt : ((B.cmn l m : Nat) : Int) < 256 := by omega
    have ho := Lib.hid (show B.ord l m = 2 * ((B.bit l (B.cmn l m)).toNat : Int) - 1 from by unfold B.ord; rw [if_neg h]; cases B.bit l (B.cmn l m) <;> rfl)
    have hr := rbit_in l hl ((B.cmn l m : Nat) : Int) (by omega) hlt
    rw [Int.toNat_natCast] at hr
    have Hr := Lib.hid hr
    clear hr h
    have hbn : (B.bit l (B.cmn l m)).toNat ≤ 1 := Bool.toNat_le _
    generalize hk : (B.bit l (B.cmn l m)).toNat = b at *
    clear hk
    go_enter Try.func77, Try.ntmps77
    go_wp2_with (first | (refine wpList_load_blk (g := w.heap.size) (t := 25) (by rfl) 25 (.tmp 2) (by rfl) 0 (by rfl) (heap_alloc2_old _ _ _) (labA l) whole_at _ Try.underlying25 (by rfl) hz ?_; simp only [Act.put, List.setIfInBounds_toArray, List.set_cons_succ, List.set_cons_zero]) | (refine wpList_load_blk (g := w.heap.size + 1) (t := 25) (by rfl) 25 (.tmp 3) (by rfl) 0 (by rfl) (heap_alloc2_new _ _ _) (labA m) whole_at _ Try.underlying25 (by rfl) hz' ?_; simp only [Act.put, List.setIfInBounds_toArray, List.set_cons_succ, List.set_cons_zero]) | (go_at_call 76; with_reducible refine (rcmn_any l m hl hm _).mono ?_; rintro e w1 ⟨rfl, hb1⟩) | (refine wpList_load_blk (g := w.heap.size) (t := 25) (by rfl) 25 (.tmp 2) (by rfl) 0 (by rfl) ((hb1.block _ (by simp; omega)).trans (heap_alloc2_old _ _ _)) (labA l) whole_at _ Try.underlying25 (by rfl) hz ?_; simp only [Act.put, List.setIfInBounds_toArray, List.set_cons_succ, List.set_cons_zero]) | (go_at_call 111; with_reducible refine (Hr.out _).mono ?_; rintro e w2 ⟨rfl, hb2⟩))
    go_ret
    exact ⟨ret_int (by rw [ho.out]), ((((Below.refl _ _).alloc (Nat.le_refl _) _).alloc (by simp) _).trans (hb1.mono (by simp; omega))).trans (hb2.mono (by have := hb1.size; simp at this; omega))⟩

set_option maxRecDepth 100000 in
set_option maxHeartbeats 1000000 in
/-- bits.Common. -/
theorem cmn_any (l m : List UInt8) (hl : l.length = 32) (hm : m.length = 32) (w : World) :
    Calls Try.prog 107 #[.agg (labA l), .agg (labA m)] w fun e w' => e = .returned (.int .i64 (B.cmn l m : Nat)) ∧ Below w.heap.size w w' := by
  go_enter Try.func107, Try.ntmps107
  go_wp2
  go_loopw [8] (fun n wr => ∃ k : Nat, k ≤ 32 ∧ n = .int .i64 (k : Int) ∧ B.SameTo l m k ∧ wr.heap[w.heap.size]? = some (.cells (labA l) 25 (0, 0)) ∧ wr.heap[w.heap.size + 1]? = some (.cells (labA m) 25 (0, 0)) ∧ Below w.heap.size w wr) (fun n _ => 32 - (intOf n).toNat)
  case atStart => exact ⟨0, by omega, by simp, fun i hi => by omega, heap_alloc2_old _ _ _, heap_alloc2_new _ _ _, ((Below.refl _ _).alloc (Nat.le_refl _) _).alloc (by simp) _⟩
  case round =>
    obtain ⟨k, hk, rfl, hsame, hA, hB, hbel⟩ := hrel
    by_cases hlt : k < 32
    · have c1 : wr.cell? ⟨w.heap.size, k, none⟩ = some (.int .u8 ((l.getD k 0).toNat : Int)) := (cell_of_row _ _ _ _ _ _ hA).trans (labA_get l k (by omega))
      have c2 : wr.cell? ⟨w.heap.size + 1, k, none⟩ = some (.int .u8 ((m.getD k 0).toNat : Int)) := (cell_of_row _ _ _ _ _ _ hB).trans (labA_get m k (by omega))
      have hx := u8_xor_nat (l.getD k 0).toNat (m.getD k 0).toNat (UInt8.toNat_lt _) (UInt8.toNat_lt _)
      have hD := Lib.hid (UInt8.toNat_xor (l.getD k 0) (m.getD k 0))
      have hDl := UInt8.toNat_lt (l.getD k 0 ^^^ m.getD k 0)
      have hbits : B.FirstAt l m k (l.getD k 0 ^^^ m.getD k 0).toNat := B.cmn_byte l m k hlt hsame
      have hzero := B.byte_zero l m k hsame
      rw [← UInt8.toNat_xor] at hx
      generalize (l.getD k 0 ^^^ m.getD k 0).toNat = D at hx hD hDl hbits hzero
      generalize (l.getD k 0).toNat = x1 at c1 hx hD
      generalize (m.getD k 0).toNat = x2 at c2 hx hD
      clear hD
      by_cases h0 : D = 0
      · subst h0
        have hs1 := hzero rfl
        clear hzero
        go_wp2
        go_quiet (fail)
        go_wp2
        go_roundw
        case rel => exact ⟨k + 1, by omega, by go_num, hs1, hA, hB, below_drewN hbel _⟩
        case measure => simp [intOf]; omega
      · clear hzero
        have hne : ((D : Int) != 0) = true := by simp [h0]
        go_wp2
        go_quiet (fail)
        go_wp2_with fail
        go_loop [6, 7] (fun y n => ∃ j z : Nat, j ≤ 7 ∧ z < 256 ∧ y = .int .u8 (z : Int) ∧ n = .int .i64 (8 * (k : Int) + (j : Int)) ∧ B.Shl D j z) (fun _ n => (8 * (k : Int) + 7 - intOf n).toNat)
        case atStart => exact ⟨0, D, by omega, hDl, rfl, by simp, B.Shl.start _⟩
        case round =>
          obtain ⟨j, z, hj, hz, rfl, rfl, hS⟩ := hrel
          have ha : bits .and .u8 (z : Int) 128 = ((z &&& 128 : Nat) : Int) := u8_and_nat z 128 hz (by omega)
          by_cases hb : z.testBit 7 = true
          · have hq : (((z &&& 128 : Nat) : Int) == 0) = false := B.top_one hb
            have hb2 : D.testBit (7 - j) = true := (hS.bit hj).symm.trans hb
            have hres := Lib.hid (hbits j (by omega) hS.2 hb2)
            clear hbits hb2 hb
            go_wp2
            go_ret
            exact ⟨ret_int (by rw [hres.out]; omega), hbel.trans (by have := hbel.size; exact below_drewN (Below.refl _ _) _)⟩
          · have hq : (((z &&& 128 : Nat) : Int) == 0) = true := B.top_none hb
            have h128 := B.lt_128 hz hb
            have h7 := hS.more hj hDl h0 hb
            have hS1 := hS.next hj hb
            clear hb
            go_wp2
            go_round
            case rel => exact ⟨j + 1, 2 * z, by omega, by omega, by go_num, by go_num, hS1⟩
            case measure => simp [intOf]; omega
    · have hk32 : k = 32 := by omega
      subst hk32
      have hres := Lib.hid (B.bytes_all hl hm hsame)
      go_wp2
      go_ret
      exact ⟨ret_int (by rw [hres.out]; rfl), hbel⟩
end Go.Proofs.Ytgjmnhbkdccgpaa
