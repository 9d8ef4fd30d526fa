/- The walk of sha.Mac. -/
import Derived.Test.YtknkbioalohofaaWSum
import Derived.Test.YtknkbioalohofaaPureMac
import Derived.Test.YtknkbioalohofaaKit6
import Derived.Test.YtknkbioalohofaaRel
import Derived.RegionTactic
import Derived.BigRegion
namespace Go.Proofs.Ytknkbioalohofaa
open Go.RowKit

def z64 : List UInt8 := List.replicate 64 0
theorem z64_length : z64.length = 64 := rfl
theorem splice_z64 (key : List UInt8) : splice (labA z64) 0 (key.map byteV).toArray = labA (key ++ List.replicate (64 - key.length) 0) := by
  unfold splice labA z64
  rw [List.map_replicate, List.toList_toArray, List.toList_toArray, List.size_toArray, List.length_map, List.take_zero, List.nil_append, Nat.zero_add, List.drop_replicate, List.map_append, List.map_replicate]
theorem make_64 (w : World) : (Instr.makeSlice 41 (.int .i64 64) (.int .i64 64)).run Try.prog w = .ok (.slice (some ⟨w.heap.size, 0, none⟩) 64 64) (w.alloc (.cells (labA z64) 5)) := make_bytes _ Try.underlying41 64 64 rfl (by decide) w
theorem fresh_b64 (w : World) : (Instr.alloc 121 true (.tuple #[])).run Try.prog w = .ok (.pointer (some ⟨w.heap.size, 0, none⟩)) (w.alloc (.cells (labA z64) 121)) := by kernel_rfl
theorem size_b64 (l : List UInt8) (h : l.length = 64) : (Try.prog.info? 121).map (·.size) = some (labA l).size := by rw [labA_size, h]; kernel_rfl
theorem index_b64 (l : List UInt8) (hl : l.length = 64) (k : Nat) (hk : k < 64) (w : World) : (Instr.index 121 (.agg (labA l)) (.int .i64 (k : Int))).run Try.prog w = .ok (.int .u8 ((l.getD k 0).toNat : Int)) w := by
  have h1 : (isAgg 5).run Try.prog w = .ok false w := by kernel_rfl
  have h2 : (sizeOf 5).run Try.prog w = .ok 1 w := by kernel_rfl
  have h3 : 0 ≤ (k : Int) ∧ (k : Int) < 64 := by omega
  have h4 := labA_get l k (by omega)
  unfold Instr.index
  simp only [asIntOf, Sem.run_bind, Sem.run_pure, Result.andThen_ok, run_underlying Try.underlying121]
  rw [show ((64 : Nat) : Int) = 64 from rfl, if_pos h3]
  simp only [part, Sem.run_bind, h1, h2, Result.andThen_ok, Int.toNat_natCast, Nat.mul_one, Bool.false_eq_true, if_false, h4, Sem.run_pure]
theorem xor_u8 (a : UInt8) (c : UInt8) : bits .xor .u8 (a.toNat : Int) (c.toNat : Int) = ((a ^^^ c).toNat : Int) := by
  rw [u8_xor_nat _ _ a.toNat_lt c.toNat_lt, UInt8.toNat_xor]
set_option maxRecDepth 100000 in
set_option maxHeartbeats 2000000 in
theorem mac_short (key text : List UInt8) (w : World) (hk : key.length ≤ 64) (ht : text.length ≤ 100000000000000) :
    Calls Try.prog 33 #[.string ⟨key.toArray⟩, .string ⟨text.toArray⟩] w fun e w' => e = .returned (.agg (labA (S.mac key text))) ∧ Below w.heap.size w w' := by
  have hz := str_size key
  have d0 : decide ((64 : Int) < ((⟨key.toArray⟩ : ByteArray).size : Int)) = false := by rw [hz]; simp; omega
  have d0' : decide (64 < (⟨key.toArray⟩ : ByteArray).size) = false := by rw [hz]; simp; omega
  have hmk := make_64
  clear hz
  go_enter Try.func33, Try.ntmps33
  go_wp2_with (first | (refine wpList_fresh (by rfl) 50 (by rfl) _ fresh_lab ?_; simp only [Act.put, List.setIfInBounds_toArray, List.set_cons_succ, List.set_cons_zero]; try simp only [World.size_alloc]) | (refine wpList_fresh (by rfl) 121 (by rfl) _ fresh_b64 ?_; simp only [Act.put, List.setIfInBounds_toArray, List.set_cons_succ, List.set_cons_zero]; try simp only [World.size_alloc]) | (refine wpList_copy_str_blk (T := 121) rfl (.tmp 20) (.tmp 21) 41 9 rfl 5 Try.underlying41 (fun _ => by kernel_rfl) 0 64 64 rfl key rfl hk (blk_new1 _ _ _ _) (by rw [labA_size, z64_length]; omega) ?_; intro w3 bk o3; simp only [Act.put, List.setIfInBounds_toArray, List.set_cons_succ, List.set_cons_zero]))
  have bO := ((Blk.new w (labA zlab) 50).alloc (.cells (labA z64) 121)).only o3 (by omega)
  have hbel := o3.below ((below_alloc1 w (.cells (labA zlab) 50)).alloc (by simp) (.cells (labA z64) 121)) (by omega)
  have hs3 : w.heap.size + 2 ≤ w3.heap.size := by rw [o3.size]; simp
  have bK : Blk w3 (w.heap.size + 1) (labA (S.key64 key)) 121 := by
    have hko : S.keyOf key = key := if_neg (by omega)
    rw [splice_z64 key] at bk
    unfold S.key64; rw [hko]; exact bk
  have Hs3 := Lib.hid hs3
  clear bk o3 hs3
  go_region
  · have _tok := trivial
    have hs3 := Hs3.out
    clear Hs3
    have hA : Blk ((w3.alloc (.cells (labA z64) 5)).alloc (.cells (labA z64) 5)).drew w3.heap.size (labA z64) 5 := (Blk.new w3 (labA z64) 5).alloc _
    have hB : Blk ((w3.alloc (.cells (labA z64) 5)).alloc (.cells (labA z64) 5)).drew (w3.heap.size + 1) (labA z64) 5 := blk_new1 w3 _ _ _
    have bO2 := ((bO.alloc (.cells (labA z64) 5)).alloc (.cells (labA z64) 5)).drew
    have bK2 := ((bK.alloc (.cells (labA z64) 5)).alloc (.cells (labA z64) 5)).drew
    have hbel2 : Below w.heap.size w ((w3.alloc (.cells (labA z64) 5)).alloc (.cells (labA z64) 5)).drew := ((hbel.alloc (by omega) _).alloc (by simp; omega) _).drew
    clear bO bK hbel
    generalize ((w3.alloc (.cells (labA z64) 5)).alloc (.cells (labA z64) 5)).drew = w4 at *
    generalize hgB : w3.heap.size + 1 = gB at *
    generalize w3.heap.size = gA at *
    have bI := hA
    have bU := hB
    have hgi2 : w.heap.size + 2 ≤ gA := by omega
    have hgo2 : w.heap.size + 2 ≤ gB := by omega
    have hne : gA ≠ gB := by omega
    clear hA hB hgB hs3
    have hkl := S.key64_length key
    have hm := S.mac_length key text
    have hmac : S.mac key text = S.sum (S.xorL 92 (S.key64 key) ++ S.sum (S.xorL 54 (S.key64 key) ++ text)) := rfl
    generalize hMg : S.mac key text = M at *
    have HMg := Lib.hid hMg
    clear hMg
    have Hmac := Lib.hid hmac
    clear hmac
    generalize S.key64 key = K at *
    rw [show labA z64 = labA (S.xorTo 54 K 0) from by rw [S.xorTo_0]; rfl] at bI
    rw [show labA z64 = labA (S.xorTo 92 K 0) from by rw [S.xorTo_0]; rfl] at bU
    go_wp2_with (refine wpList_load_blk (by rfl) 121 (.tmp 5) (by rfl) 0 (by rfl) (bK2) (labA K) whole_at _ Try.underlying121 (by rfl) (size_b64 K hkl) ?_; simp only [Act.put, List.setIfInBounds_toArray, List.set_cons_succ, List.set_cons_zero])
    clear bK2
    go_loopw [26] (fun i wz => ∃ k : Nat, k ≤ 64 ∧ i = .int .i64 (k : Int) ∧ Blk wz gA (labA (S.xorTo 54 K k)) 5 ∧ Blk wz gB (labA (S.xorTo 92 K k)) 5 ∧ Blk wz w.heap.size (labA zlab) 50 ∧ Below w.heap.size w wz) (fun i _ => 64 - (intOf i).toNat)
    case atStart => exact ⟨0, by omega, rfl, bI, bU, bO2, hbel2⟩
    case round =>
      clear bI bU bO2 hbel2
      obtain ⟨k, hk64, rfl, bI, bU, bO, bB⟩ := hrel
      by_cases hlt : k < 64
      · have d1 : decide ((k : Int) < 64) = true := by simp; omega
        have hget := index_b64 K hkl k hlt
        have ci := bI.cellv (labA_get (S.xorTo 54 K k) k (by rw [S.xorTo_length _ _ hkl _ hk64]; exact hlt))
        have fi := bI.free k
        have pI := blk_put bI k (K.getD k 0 ^^^ 54)
        rw [S.xorTo_set _ _ hkl k hlt] at pI
        have pU0 := bU.far (p := ⟨gA, k, none⟩) (by simp; omega) (.int .u8 ((K.getD k 0 ^^^ 54).toNat : Int))
        have cu := pU0.cellv (labA_get (S.xorTo 92 K k) k (by rw [S.xorTo_length _ _ hkl _ hk64]; exact hlt))
        have fu := pU0.free k
        have pU := blk_put pU0 k (K.getD k 0 ^^^ 92)
        rw [S.xorTo_set _ _ hkl k hlt] at pU
        have pI2 := pI.far (p := ⟨gB, k, none⟩) (by simp; omega) (.int .u8 ((K.getD k 0 ^^^ 92).toNat : Int))
        have pO := (bO.far (p := ⟨gA, k, none⟩) (by simp; omega) (.int .u8 ((K.getD k 0 ^^^ 54).toNat : Int))).far (p := ⟨gB, k, none⟩) (by simp; omega) (.int .u8 ((K.getD k 0 ^^^ 92).toNat : Int))
        have pB := (bB.setCell (p := ⟨gA, k, none⟩) (by simp; omega) (.int .u8 ((K.getD k 0 ^^^ 54).toNat : Int))).setCell (p := ⟨gB, k, none⟩) (by simp; omega) (.int .u8 ((K.getD k 0 ^^^ 92).toNat : Int))
        have x1 := xor_u8 (K.getD k 0) 54
        have x2 := xor_u8 (K.getD k 0) 92
        rw [show ((54 : UInt8).toNat : Int) = 54 from rfl] at x1
        rw [show ((92 : UInt8).toNat : Int) = 92 from rfl] at x2
        generalize (K.getD k 0 ^^^ 54).toNat = X at *
        generalize (K.getD k 0 ^^^ 92).toNat = Y at *
        generalize (K.getD k 0).toNat = Z at *
        have jk : (0 : Int) ≤ (k : Int) := by omega
        have jk2 : (k : Int) < 64 := by omega
        clear pI pU0 bI bU bO bB
        go_wp2
        go_roundw
        case rel => exact ⟨k + 1, by omega, by go_num, pI2, pU, pO, pB⟩
        case measure => simp [intOf]; omega
      · obtain rfl : k = 64 := by omega
        rw [S.xorTo_64 _ _ hkl] at bI bU
        have hx1 : (S.xorL 54 K).length = 64 := by rw [S.xorL_length, hkl]
        have hx2 : (S.xorL 92 K).length = 64 := by rw [S.xorL_length, hkl]
        have hs1 := conv_blk bI 41 Try.underlying41 64 64 (by omega)
        rw [List.take_of_length_le (by omega)] at hs1
        have ha1 := str_add (S.xorL 54 K) text (by omega)
        have hsum1 := Lib.hid (fun W => sum_any (S.xorL 54 K ++ text) W (by rw [List.length_append]; omega))
        have hl1 := S.sum_length (S.xorL 54 K ++ text)
        generalize S.sum (S.xorL 54 K ++ text) = s1 at *
        have ha2 := str_add (S.xorL 92 K) s1 (by omega)
        have hsum2 := Lib.hid (fun W => sum_any (S.xorL 92 K ++ s1) W (by rw [List.length_append]; omega))
        have hM2 := Lib.hid (Hmac.out.symm)
        clear Hmac hkl
        generalize S.xorL 54 K ++ text = t1 at *
        generalize S.sum (S.xorL 92 K ++ s1) = s2 at *
        obtain rfl : s2 = M := hM2.out
        clear hM2
        go_wp2_with (first | (go_at_call 32; with_reducible refine (hsum1.out _).mono ?_; rintro e w5 ⟨rfl, hb5⟩) | (refine wpList_fresh (by rfl) 50 (by rfl) _ fresh_lab ?_; simp only [Act.put, List.setIfInBounds_toArray, List.set_cons_succ, List.set_cons_zero]; try simp only [World.size_alloc]) | ((refine wpList_store_blk (by rfl) 50 (.tmp 11) (.tmp 45) (by rfl) (0) (labA s1) (by rfl) (by rfl) ((Blk.new _ _ _)) ((by rw [labA_size, labA_size, hl1]; decide)) (size_lab s1 hl1) (labA_all _) ?_; simp only [Act.put]); intro w6 b6 o6; rw [splice_all _ _ (by rw [labA_size, labA_size, hl1]; decide)] at b6))
        have bel6 : Below wr.heap.size wr w6 := o6.below (hb5.alloc hb5.size _) hb5.size
        have bU6 := bU.at_ bel6
        have bO6 := bO.at_ bel6
        have bB6 := bB.trans (bel6.mono bB.size)
        clear bI bU bO bB hs1 ha1 o6 hb5 bel6
        generalize w5.heap.size = gX at *
        generalize S.xorL 92 K = k2 at *
        have hcU : ∀ W, Stp w6.drew W → (convert 41 9 (.slice (some ⟨gB, 0, none⟩) 64 64)).run Try.prog W = .ok (.string ⟨k2.toArray⟩) W := fun W h => by
          have := conv_blk (bU6.drew.at_ h) 41 Try.underlying41 64 64 (by omega)
          rwa [List.take_of_length_le (by omega)] at this
        have hcX : ∀ W, Stp w6.drew W → (convert 41 9 (.slice (some ⟨gX, 0, none⟩) 32 32)).run Try.prog W = .ok (.string ⟨s1.toArray⟩) W := fun W h => by
          have := conv_blk (b6.drew.at_ h) 41 Try.underlying41 32 32 (by omega)
          rwa [List.take_of_length_le (by omega)] at this
        apply wp_region_rel_below_tail 6 [[(8, none)], [(46, some 0)], [(11, none)], [(48, some 2)], [(47, some 1), (49, some 3)], [(50, some 4)]] [eqv _, eqv _, eqv _, eqv _, eqv _, eqv _] (by kernel_rfl) (by kernel_rfl)
        case hobs =>
          refine ⟨?_, ?_⟩
          · rintro L a1 w1 hT - - ⟨h8, -⟩   -- 0: Op.move t8
            have e8 : a1.tmps.getD 8 undef = _ := h8
            have f8 := getD_form e8
            clear h8
            (go_simp; exact left_intro rfl (Stp.refl _) trivial)
          refine ⟨?_, ?_⟩
          · rintro L a1 w1 hT - - ⟨h46, -⟩   -- 1: Op.convert 36 9 t46
            have e46 : a1.tmps.getD 46 undef = _ := h46
            have f46 := getD_form e46
            clear h46
            have c46 := hcU w1 hT
            (go_simp; exact left_intro rfl (Stp.refl _) trivial)
          refine ⟨?_, ?_⟩
          · rintro L a1 w1 hT - - ⟨h11, -⟩   -- 2: Op.slice 25 t11 none none none
            have e11 : a1.tmps.getD 11 undef = _ := h11
            have f11 := getD_form e11
            clear h11
            (go_simp; exact left_intro rfl (Stp.refl _) trivial)
          refine ⟨?_, ?_⟩
          · rintro L a1 w1 hT - - ⟨h48, -⟩   -- 3: Op.convert 36 9 t48
            have e48 : a1.tmps.getD 48 undef = _ := h48
            have f48 := getD_form e48
            clear h48
            have c48 := hcX w1 hT
            (go_simp; exact left_intro rfl (Stp.refl _) trivial)
          refine ⟨?_, ?_⟩
          · rintro L a1 w1 hT - - ⟨h47, h49, -⟩   -- 4: Op.binOp BinOp.add 9 t47 t49 9
            have e47 : a1.tmps.getD 47 undef = _ := h47
            have f47 := getD_form e47
            have e49 : a1.tmps.getD 49 undef = _ := h49
            have f49 := getD_form e49
            clear h47 h49
            (go_simp; exact left_intro rfl (Stp.refl _) trivial)
          refine ⟨?_, ?_⟩
          · rintro L a1 w1 hT - - ⟨h50, -⟩   -- 5: Op.call { value (Operand.func 20), args := #[t50], argTypes := #[9] }
            have e50 : a1.tmps.getD 50 undef = _ := h50
            have f50 := getD_form e50
            clear h50
            (go_simp; go_at_call 32; (with_reducible refine (hsum2.out _).mono ?_); rintro e w2 ⟨rfl, hb⟩; exact left_intro rfl (Stp.of hb) trivial)
          trivial
        case hmono => repeat (first | exact trivial | refine ⟨fun _ _ _ _ h => h, ?_⟩)
        case hend =>
          intro w2 hT
          rintro _ rfl _ rfl _ rfl _ rfl _ rfl _ rfl
          have bO7 := bO6.at_ hT
          have bB7 := bB6.trans (hT.mono bB6.size)
          simp only [Act.put, List.setIfInBounds_toArray, List.set_cons_succ, List.set_cons_zero, List.drop_succ_cons, List.drop_zero]
          go_wp2_with ((refine wpList_store_blk (by rfl) 50 (.tmp 4) (.tmp 51) (by rfl) (0) (labA s2) (by rfl) (by rfl) (bO7) ((by rw [labA_size, labA_size, hm]; decide)) (size_lab s2 hm) (labA_all _) ?_; simp only [Act.put]); intro w9 b9 o9)
          rw [splice_all _ _ (by rw [labA_size, labA_size, hm]; decide)] at b9
          exact bodyPost_ret (v := .agg (labA s2)) (results_blk (by rfl) _ b9 _ (by rfl) Try.underlying50 (by rfl) (size_lab s2 hm)) rfl ⟨by rw [HMg.out], o9.below bB7 (Nat.le_refl _)⟩
  · have _tok := trivial
    have hs3 := Hs3.out
    clear Hs3
    have hA : Blk ((w3.alloc (.cells (labA z64) 5)).alloc (.cells (labA z64) 5)).drew w3.heap.size (labA z64) 5 := (Blk.new w3 (labA z64) 5).alloc _
    have hB : Blk ((w3.alloc (.cells (labA z64) 5)).alloc (.cells (labA z64) 5)).drew (w3.heap.size + 1) (labA z64) 5 := blk_new1 w3 _ _ _
    have bO2 := ((bO.alloc (.cells (labA z64) 5)).alloc (.cells (labA z64) 5)).drew
    have bK2 := ((bK.alloc (.cells (labA z64) 5)).alloc (.cells (labA z64) 5)).drew
    have hbel2 : Below w.heap.size w ((w3.alloc (.cells (labA z64) 5)).alloc (.cells (labA z64) 5)).drew := ((hbel.alloc (by omega) _).alloc (by simp; omega) _).drew
    clear bO bK hbel
    generalize ((w3.alloc (.cells (labA z64) 5)).alloc (.cells (labA z64) 5)).drew = w4 at *
    generalize hgB : w3.heap.size + 1 = gB at *
    generalize w3.heap.size = gA at *
    have bI := hB
    have bU := hA
    have hgi2 : w.heap.size + 2 ≤ gB := by omega
    have hgo2 : w.heap.size + 2 ≤ gA := by omega
    have hne : gB ≠ gA := by omega
    clear hA hB hgB hs3
    have hkl := S.key64_length key
    have hm := S.mac_length key text
    have hmac : S.mac key text = S.sum (S.xorL 92 (S.key64 key) ++ S.sum (S.xorL 54 (S.key64 key) ++ text)) := rfl
    generalize hMg : S.mac key text = M at *
    have HMg := Lib.hid hMg
    clear hMg
    have Hmac := Lib.hid hmac
    clear hmac
    generalize S.key64 key = K at *
    rw [show labA z64 = labA (S.xorTo 54 K 0) from by rw [S.xorTo_0]; rfl] at bI
    rw [show labA z64 = labA (S.xorTo 92 K 0) from by rw [S.xorTo_0]; rfl] at bU
    go_wp2_with (refine wpList_load_blk (by rfl) 121 (.tmp 5) (by rfl) 0 (by rfl) (bK2) (labA K) whole_at _ Try.underlying121 (by rfl) (size_b64 K hkl) ?_; simp only [Act.put, List.setIfInBounds_toArray, List.set_cons_succ, List.set_cons_zero])
    clear bK2
    go_loopw [26] (fun i wz => ∃ k : Nat, k ≤ 64 ∧ i = .int .i64 (k : Int) ∧ Blk wz gB (labA (S.xorTo 54 K k)) 5 ∧ Blk wz gA (labA (S.xorTo 92 K k)) 5 ∧ Blk wz w.heap.size (labA zlab) 50 ∧ Below w.heap.size w wz) (fun i _ => 64 - (intOf i).toNat)
    case atStart => exact ⟨0, by omega, rfl, bI, bU, bO2, hbel2⟩
    case round =>
      clear bI bU bO2 hbel2
      obtain ⟨k, hk64, rfl, bI, bU, bO, bB⟩ := hrel
      by_cases hlt : k < 64
      · have d1 : decide ((k : Int) < 64) = true := by simp; omega
        have hget := index_b64 K hkl k hlt
        have ci := bI.cellv (labA_get (S.xorTo 54 K k) k (by rw [S.xorTo_length _ _ hkl _ hk64]; exact hlt))
        have fi := bI.free k
        have pI := blk_put bI k (K.getD k 0 ^^^ 54)
        rw [S.xorTo_set _ _ hkl k hlt] at pI
        have pU0 := bU.far (p := ⟨gB, k, none⟩) (by simp; omega) (.int .u8 ((K.getD k 0 ^^^ 54).toNat : Int))
        have cu := pU0.cellv (labA_get (S.xorTo 92 K k) k (by rw [S.xorTo_length _ _ hkl _ hk64]; exact hlt))
        have fu := pU0.free k
        have pU := blk_put pU0 k (K.getD k 0 ^^^ 92)
        rw [S.xorTo_set _ _ hkl k hlt] at pU
        have pI2 := pI.far (p := ⟨gA, k, none⟩) (by simp; omega) (.int .u8 ((K.getD k 0 ^^^ 92).toNat : Int))
        have pO := (bO.far (p := ⟨gB, k, none⟩) (by simp; omega) (.int .u8 ((K.getD k 0 ^^^ 54).toNat : Int))).far (p := ⟨gA, k, none⟩) (by simp; omega) (.int .u8 ((K.getD k 0 ^^^ 92).toNat : Int))
        have pB := (bB.setCell (p := ⟨gB, k, none⟩) (by simp; omega) (.int .u8 ((K.getD k 0 ^^^ 54).toNat : Int))).setCell (p := ⟨gA, k, none⟩) (by simp; omega) (.int .u8 ((K.getD k 0 ^^^ 92).toNat : Int))
        have x1 := xor_u8 (K.getD k 0) 54
        have x2 := xor_u8 (K.getD k 0) 92
        rw [show ((54 : UInt8).toNat : Int) = 54 from rfl] at x1
        rw [show ((92 : UInt8).toNat : Int) = 92 from rfl] at x2
        generalize (K.getD k 0 ^^^ 54).toNat = X at *
        generalize (K.getD k 0 ^^^ 92).toNat = Y at *
        generalize (K.getD k 0).toNat = Z at *
        have jk : (0 : Int) ≤ (k : Int) := by omega
        have jk2 : (k : Int) < 64 := by omega
        clear pI pU0 bI bU bO bB
        go_wp2
        go_roundw
        case rel => exact ⟨k + 1, by omega, by go_num, pI2, pU, pO, pB⟩
        case measure => simp [intOf]; omega
      · obtain rfl : k = 64 := by omega
        rw [S.xorTo_64 _ _ hkl] at bI bU
        have hx1 : (S.xorL 54 K).length = 64 := by rw [S.xorL_length, hkl]
        have hx2 : (S.xorL 92 K).length = 64 := by rw [S.xorL_length, hkl]
        have hs1 := conv_blk bI 41 Try.underlying41 64 64 (by omega)
        rw [List.take_of_length_le (by omega)] at hs1
        have ha1 := str_add (S.xorL 54 K) text (by omega)
        have hsum1 := Lib.hid (fun W => sum_any (S.xorL 54 K ++ text) W (by rw [List.length_append]; omega))
        have hl1 := S.sum_length (S.xorL 54 K ++ text)
        generalize S.sum (S.xorL 54 K ++ text) = s1 at *
        have ha2 := str_add (S.xorL 92 K) s1 (by omega)
        have hsum2 := Lib.hid (fun W => sum_any (S.xorL 92 K ++ s1) W (by rw [List.length_append]; omega))
        have hM2 := Lib.hid (Hmac.out.symm)
        clear Hmac hkl
        generalize S.xorL 54 K ++ text = t1 at *
        generalize S.sum (S.xorL 92 K ++ s1) = s2 at *
        obtain rfl : s2 = M := hM2.out
        clear hM2
        go_wp2_with (first | (go_at_call 32; with_reducible refine (hsum1.out _).mono ?_; rintro e w5 ⟨rfl, hb5⟩) | (refine wpList_fresh (by rfl) 50 (by rfl) _ fresh_lab ?_; simp only [Act.put, List.setIfInBounds_toArray, List.set_cons_succ, List.set_cons_zero]; try simp only [World.size_alloc]) | ((refine wpList_store_blk (by rfl) 50 (.tmp 11) (.tmp 45) (by rfl) (0) (labA s1) (by rfl) (by rfl) ((Blk.new _ _ _)) ((by rw [labA_size, labA_size, hl1]; decide)) (size_lab s1 hl1) (labA_all _) ?_; simp only [Act.put]); intro w6 b6 o6; rw [splice_all _ _ (by rw [labA_size, labA_size, hl1]; decide)] at b6))
        have bel6 : Below wr.heap.size wr w6 := o6.below (hb5.alloc hb5.size _) hb5.size
        have bU6 := bU.at_ bel6
        have bO6 := bO.at_ bel6
        have bB6 := bB.trans (bel6.mono bB.size)
        clear bI bU bO bB hs1 ha1 o6 hb5 bel6
        generalize w5.heap.size = gX at *
        generalize S.xorL 92 K = k2 at *
        have hcU : ∀ W, Stp w6.drew W → (convert 41 9 (.slice (some ⟨gA, 0, none⟩) 64 64)).run Try.prog W = .ok (.string ⟨k2.toArray⟩) W := fun W h => by
          have := conv_blk (bU6.drew.at_ h) 41 Try.underlying41 64 64 (by omega)
          rwa [List.take_of_length_le (by omega)] at this
        have hcX : ∀ W, Stp w6.drew W → (convert 41 9 (.slice (some ⟨gX, 0, none⟩) 32 32)).run Try.prog W = .ok (.string ⟨s1.toArray⟩) W := fun W h => by
          have := conv_blk (b6.drew.at_ h) 41 Try.underlying41 32 32 (by omega)
          rwa [List.take_of_length_le (by omega)] at this
        apply wp_region_rel_below_tail 6 [[(8, none)], [(46, some 0)], [(11, none)], [(48, some 2)], [(47, some 1), (49, some 3)], [(50, some 4)]] [eqv _, eqv _, eqv _, eqv _, eqv _, eqv _] (by kernel_rfl) (by kernel_rfl)
        case hobs =>
          refine ⟨?_, ?_⟩
          · rintro L a1 w1 hT - - ⟨h8, -⟩   -- 0: Op.move t8
            have e8 : a1.tmps.getD 8 undef = _ := h8
            have f8 := getD_form e8
            clear h8
            (go_simp; exact left_intro rfl (Stp.refl _) trivial)
          refine ⟨?_, ?_⟩
          · rintro L a1 w1 hT - - ⟨h46, -⟩   -- 1: Op.convert 36 9 t46
            have e46 : a1.tmps.getD 46 undef = _ := h46
            have f46 := getD_form e46
            clear h46
            have c46 := hcU w1 hT
            (go_simp; exact left_intro rfl (Stp.refl _) trivial)
          refine ⟨?_, ?_⟩
          · rintro L a1 w1 hT - - ⟨h11, -⟩   -- 2: Op.slice 25 t11 none none none
            have e11 : a1.tmps.getD 11 undef = _ := h11
            have f11 := getD_form e11
            clear h11
            (go_simp; exact left_intro rfl (Stp.refl _) trivial)
          refine ⟨?_, ?_⟩
          · rintro L a1 w1 hT - - ⟨h48, -⟩   -- 3: Op.convert 36 9 t48
            have e48 : a1.tmps.getD 48 undef = _ := h48
            have f48 := getD_form e48
            clear h48
            have c48 := hcX w1 hT
            (go_simp; exact left_intro rfl (Stp.refl _) trivial)
          refine ⟨?_, ?_⟩
          · rintro L a1 w1 hT - - ⟨h47, h49, -⟩   -- 4: Op.binOp BinOp.add 9 t47 t49 9
            have e47 : a1.tmps.getD 47 undef = _ := h47
            have f47 := getD_form e47
            have e49 : a1.tmps.getD 49 undef = _ := h49
            have f49 := getD_form e49
            clear h47 h49
            (go_simp; exact left_intro rfl (Stp.refl _) trivial)
          refine ⟨?_, ?_⟩
          · rintro L a1 w1 hT - - ⟨h50, -⟩   -- 5: Op.call { value (Operand.func 20), args := #[t50], argTypes := #[9] }
            have e50 : a1.tmps.getD 50 undef = _ := h50
            have f50 := getD_form e50
            clear h50
            (go_simp; go_at_call 32; (with_reducible refine (hsum2.out _).mono ?_); rintro e w2 ⟨rfl, hb⟩; exact left_intro rfl (Stp.of hb) trivial)
          trivial
        case hmono => repeat (first | exact trivial | refine ⟨fun _ _ _ _ h => h, ?_⟩)
        case hend =>
          intro w2 hT
          rintro _ rfl _ rfl _ rfl _ rfl _ rfl _ rfl
          have bO7 := bO6.at_ hT
          have bB7 := bB6.trans (hT.mono bB6.size)
          simp only [Act.put, List.setIfInBounds_toArray, List.set_cons_succ, List.set_cons_zero, List.drop_succ_cons, List.drop_zero]
          go_wp2_with ((refine wpList_store_blk (by rfl) 50 (.tmp 4) (.tmp 51) (by rfl) (0) (labA s2) (by rfl) (by rfl) (bO7) ((by rw [labA_size, labA_size, hm]; decide)) (size_lab s2 hm) (labA_all _) ?_; simp only [Act.put]); intro w9 b9 o9)
          rw [splice_all _ _ (by rw [labA_size, labA_size, hm]; decide)] at b9
          exact bodyPost_ret (v := .agg (labA s2)) (results_blk (by rfl) _ b9 _ (by rfl) Try.underlying50 (by rfl) (size_lab s2 hm)) rfl ⟨by rw [HMg.out], o9.below bB7 (Nat.le_refl _)⟩
set_option maxRecDepth 100000 in
set_option maxHeartbeats 2000000 in
theorem mac_long (key text : List UInt8) (w : World) (hk : 64 < key.length) (hkl : key.length ≤ 100000000000000) (ht : text.length ≤ 100000000000000) :
    Calls Try.prog 33 #[.string ⟨key.toArray⟩, .string ⟨text.toArray⟩] w fun e w' => e = .returned (.agg (labA (S.mac key text))) ∧ Below w.heap.size w w' := by
  have hz := str_size key
  have d0 : decide ((64 : Int) < ((⟨key.toArray⟩ : ByteArray).size : Int)) = true := by rw [hz]; simp; omega
  have d0' : decide (64 < (⟨key.toArray⟩ : ByteArray).size) = true := by rw [hz]; simp; omega
  have hmk := make_64
  have hko : S.keyOf key = S.sum key := if_pos hk
  have hls := S.sum_length key
  have hsum := Lib.hid (fun W => sum_any key W (by omega))
  have Hko := Lib.hid hko
  generalize S.sum key = s at *
  clear hz hko
  go_enter Try.func33, Try.ntmps33
  go_wp2_with (first | (refine wpList_fresh (by rfl) 50 (by rfl) _ fresh_lab ?_; simp only [Act.put, List.setIfInBounds_toArray, List.set_cons_succ, List.set_cons_zero]; try simp only [World.size_alloc]) | (refine wpList_fresh (by rfl) 121 (by rfl) _ fresh_b64 ?_; simp only [Act.put, List.setIfInBounds_toArray, List.set_cons_succ, List.set_cons_zero]; try simp only [World.size_alloc]) | (go_at_call 32; with_reducible refine (hsum.out _).mono ?_; rintro e w1 ⟨rfl, hb1⟩) | ((refine wpList_store_blk (by rfl) 50 (.tmp 6) (.tmp 16) (by rfl) (0) (labA s) (by rfl) (by rfl) ((Blk.new _ _ _)) ((by rw [labA_size, labA_size, hls]; decide)) (size_lab s hls) (labA_all _) ?_; simp only [Act.put]); intro w2 bx o2; rw [splice_all _ _ (by rw [labA_size, labA_size, hls]; decide)] at bx))
  have hb0 : Below w.heap.size w ((w.alloc (.cells (labA zlab) 50)).alloc (.cells (labA z64) 121)) := (below_alloc1 w _).alloc (by simp) _
  have hsz0 : ((w.alloc (.cells (labA zlab) 50)).alloc (.cells (labA z64) 121)).heap.size = w.heap.size + 2 := by simp
  have bO0 := (Blk.new w (labA zlab) 50).alloc (.cells (labA z64) 121)
  have bk0 := blk_new1 w (.cells (labA zlab) 50) (labA z64) 121
  have hb2 := o2.below (hb1.alloc hb1.size (.cells (labA zlab) 50)) hb1.size
  have hge := hb1.size
  have bO1 := bO0.at_ hb2
  have bk1 := bk0.at_ hb2
  have hbel2 := hb0.trans (hb2.mono (by omega))
  have hsz2 := hb2.size
  rw [hsz0] at hge hsz2
  have Hk0 := Lib.hid (show s.length = 32 from hls)
  clear o2 hb1 hb2 bO0 bk0 hb0 hsz0
  generalize w1.heap.size = gx at *
  go_still_tail 2, (by kernel_rfl)
  change wpList _ _ _ _ _ w2.drew
  replace bx := bx.drew
  replace bO1 := bO1.drew
  replace bk1 := bk1.drew
  replace hbel2 := hbel2.drew
  have hsz3 : w.heap.size + 2 ≤ w2.drew.heap.size := hsz2
  generalize w2.drew = w4 at *
  go_wp2_with (refine wpList_copy_blk (by rfl) (.tmp 17) (.tmp 18) 41 41 (by rfl) 5 Try.underlying41 (by kernel_rfl) 0 64 64 ⟨gx, 0, none⟩ 32 32 (by rfl) (by rfl) bk1 (s.map byteV) (by rw [List.length_map, hls]; rfl) (src_bytes bx (off := 0) (fun j hj => by rw [Nat.zero_add]; exact labA_byte s j hj)) (by rw [labA_size, z64_length, List.length_map, hls]; decide) (bytes_one s) ?_; intro w3 bk o3; simp only [Act.put, List.setIfInBounds_toArray, List.set_cons_succ, List.set_cons_zero])
  have bO := bO1.only o3 (by omega)
  have hbel := o3.below hbel2 (by omega)
  have hs3 : w.heap.size + 2 ≤ w3.heap.size := by rw [o3.size]; exact hsz3
  have bK : Blk w3 (w.heap.size + 1) (labA (S.key64 key)) 121 := by
    rw [splice_z64] at bk
    unfold S.key64; rw [Hko.out]; exact bk
  have Hs3 := Lib.hid hs3
  clear bk o3 hs3 bO1 bk1 hbel2 hsz2 hsz3 hge bx hls Hko
  clear hkl
  go_outline
  go_region
  · have _tok := trivial
    have hs3 := Hs3.out
    clear Hs3
    have hA : Blk ((w3.alloc (.cells (labA z64) 5)).alloc (.cells (labA z64) 5)).drew w3.heap.size (labA z64) 5 := (Blk.new w3 (labA z64) 5).alloc _
    have hB : Blk ((w3.alloc (.cells (labA z64) 5)).alloc (.cells (labA z64) 5)).drew (w3.heap.size + 1) (labA z64) 5 := blk_new1 w3 _ _ _
    have bO2 := ((bO.alloc (.cells (labA z64) 5)).alloc (.cells (labA z64) 5)).drew
    have bK2 := ((bK.alloc (.cells (labA z64) 5)).alloc (.cells (labA z64) 5)).drew
    have hbel2 : Below w.heap.size w ((w3.alloc (.cells (labA z64) 5)).alloc (.cells (labA z64) 5)).drew := ((hbel.alloc (by omega) _).alloc (by simp; omega) _).drew
    clear bO bK hbel
    generalize ((w3.alloc (.cells (labA z64) 5)).alloc (.cells (labA z64) 5)).drew = w4 at *
    generalize hgB : w3.heap.size + 1 = gB at *
    generalize w3.heap.size = gA at *
    have bI := hA
    have bU := hB
    have hgi2 : w.heap.size + 2 ≤ gA := by omega
    have hgo2 : w.heap.size + 2 ≤ gB := by omega
    have hne : gA ≠ gB := by omega
    clear hA hB hgB hs3
    have hkl := S.key64_length key
    have hm := S.mac_length key text
    have hmac : S.mac key text = S.sum (S.xorL 92 (S.key64 key) ++ S.sum (S.xorL 54 (S.key64 key) ++ text)) := rfl
    generalize hMg : S.mac key text = M at *
    have HMg := Lib.hid hMg
    clear hMg
    have Hmac := Lib.hid hmac
    clear hmac
    generalize S.key64 key = K at *
    rw [show labA z64 = labA (S.xorTo 54 K 0) from by rw [S.xorTo_0]; rfl] at bI
    rw [show labA z64 = labA (S.xorTo 92 K 0) from by rw [S.xorTo_0]; rfl] at bU
    go_wp2_with (refine wpList_load_blk (by rfl) 121 (.tmp 5) (by rfl) 0 (by rfl) (bK2) (labA K) whole_at _ Try.underlying121 (by rfl) (size_b64 K hkl) ?_; simp only [Act.put, List.setIfInBounds_toArray, List.set_cons_succ, List.set_cons_zero])
    clear bK2
    go_loopw [26] (fun i wz => ∃ k : Nat, k ≤ 64 ∧ i = .int .i64 (k : Int) ∧ Blk wz gA (labA (S.xorTo 54 K k)) 5 ∧ Blk wz gB (labA (S.xorTo 92 K k)) 5 ∧ Blk wz w.heap.size (labA zlab) 50 ∧ Below w.heap.size w wz) (fun i _ => 64 - (intOf i).toNat)
    case atStart => exact ⟨0, by omega, rfl, bI, bU, bO2, hbel2⟩
    case round =>
      clear bI bU bO2 hbel2
      obtain ⟨k, hk64, rfl, bI, bU, bO, bB⟩ := hrel
      by_cases hlt : k < 64
      · have d1 : decide ((k : Int) < 64) = true := by simp; omega
        have hget := index_b64 K hkl k hlt
        have ci := bI.cellv (labA_get (S.xorTo 54 K k) k (by rw [S.xorTo_length _ _ hkl _ hk64]; exact hlt))
        have fi := bI.free k
        have pI := blk_put bI k (K.getD k 0 ^^^ 54)
        rw [S.xorTo_set _ _ hkl k hlt] at pI
        have pU0 := bU.far (p := ⟨gA, k, none⟩) (by simp; omega) (.int .u8 ((K.getD k 0 ^^^ 54).toNat : Int))
        have cu := pU0.cellv (labA_get (S.xorTo 92 K k) k (by rw [S.xorTo_length _ _ hkl _ hk64]; exact hlt))
        have fu := pU0.free k
        have pU := blk_put pU0 k (K.getD k 0 ^^^ 92)
        rw [S.xorTo_set _ _ hkl k hlt] at pU
        have pI2 := pI.far (p := ⟨gB, k, none⟩) (by simp; omega) (.int .u8 ((K.getD k 0 ^^^ 92).toNat : Int))
        have pO := (bO.far (p := ⟨gA, k, none⟩) (by simp; omega) (.int .u8 ((K.getD k 0 ^^^ 54).toNat : Int))).far (p := ⟨gB, k, none⟩) (by simp; omega) (.int .u8 ((K.getD k 0 ^^^ 92).toNat : Int))
        have pB := (bB.setCell (p := ⟨gA, k, none⟩) (by simp; omega) (.int .u8 ((K.getD k 0 ^^^ 54).toNat : Int))).setCell (p := ⟨gB, k, none⟩) (by simp; omega) (.int .u8 ((K.getD k 0 ^^^ 92).toNat : Int))
        have x1 := xor_u8 (K.getD k 0) 54
        have x2 := xor_u8 (K.getD k 0) 92
        rw [show ((54 : UInt8).toNat : Int) = 54 from rfl] at x1
        rw [show ((92 : UInt8).toNat : Int) = 92 from rfl] at x2
        generalize (K.getD k 0 ^^^ 54).toNat = X at *
        generalize (K.getD k 0 ^^^ 92).toNat = Y at *
        generalize (K.getD k 0).toNat = Z at *
        have jk : (0 : Int) ≤ (k : Int) := by omega
        have jk2 : (k : Int) < 64 := by omega
        clear pI pU0 bI bU bO bB
        go_wp2
        go_roundw
        case rel => exact ⟨k + 1, by omega, by go_num, pI2, pU, pO, pB⟩
        case measure => simp [intOf]; omega
      · obtain rfl : k = 64 := by omega
        rw [S.xorTo_64 _ _ hkl] at bI bU
        have hx1 : (S.xorL 54 K).length = 64 := by rw [S.xorL_length, hkl]
        have hx2 : (S.xorL 92 K).length = 64 := by rw [S.xorL_length, hkl]
        have hs1 := conv_blk bI 41 Try.underlying41 64 64 (by omega)
        rw [List.take_of_length_le (by omega)] at hs1
        have ha1 := str_add (S.xorL 54 K) text (by omega)
        have hsum1 := Lib.hid (fun W => sum_any (S.xorL 54 K ++ text) W (by rw [List.length_append]; omega))
        have hl1 := S.sum_length (S.xorL 54 K ++ text)
        generalize S.sum (S.xorL 54 K ++ text) = s1 at *
        have ha2 := str_add (S.xorL 92 K) s1 (by omega)
        have hsum2 := Lib.hid (fun W => sum_any (S.xorL 92 K ++ s1) W (by rw [List.length_append]; omega))
        have hM2 := Lib.hid (Hmac.out.symm)
        clear Hmac hkl
        generalize S.xorL 54 K ++ text = t1 at *
        generalize S.sum (S.xorL 92 K ++ s1) = s2 at *
        obtain rfl : s2 = M := hM2.out
        clear hM2
        go_wp2_with (first | (go_at_call 32; with_reducible refine (hsum1.out _).mono ?_; rintro e w5 ⟨rfl, hb5⟩) | (refine wpList_fresh (by rfl) 50 (by rfl) _ fresh_lab ?_; simp only [Act.put, List.setIfInBounds_toArray, List.set_cons_succ, List.set_cons_zero]; try simp only [World.size_alloc]) | ((refine wpList_store_blk (by rfl) 50 (.tmp 11) (.tmp 45) (by rfl) (0) (labA s1) (by rfl) (by rfl) ((Blk.new _ _ _)) ((by rw [labA_size, labA_size, hl1]; decide)) (size_lab s1 hl1) (labA_all _) ?_; simp only [Act.put]); intro w6 b6 o6; rw [splice_all _ _ (by rw [labA_size, labA_size, hl1]; decide)] at b6))
        have bel6 : Below wr.heap.size wr w6 := o6.below (hb5.alloc hb5.size _) hb5.size
        have bU6 := bU.at_ bel6
        have bO6 := bO.at_ bel6
        have bB6 := bB.trans (bel6.mono bB.size)
        clear bI bU bO bB hs1 ha1 o6 hb5 bel6
        generalize w5.heap.size = gX at *
        generalize S.xorL 92 K = k2 at *
        have hcU : ∀ W, Stp w6.drew W → (convert 41 9 (.slice (some ⟨gB, 0, none⟩) 64 64)).run Try.prog W = .ok (.string ⟨k2.toArray⟩) W := fun W h => by
          have := conv_blk (bU6.drew.at_ h) 41 Try.underlying41 64 64 (by omega)
          rwa [List.take_of_length_le (by omega)] at this
        have hcX : ∀ W, Stp w6.drew W → (convert 41 9 (.slice (some ⟨gX, 0, none⟩) 32 32)).run Try.prog W = .ok (.string ⟨s1.toArray⟩) W := fun W h => by
          have := conv_blk (b6.drew.at_ h) 41 Try.underlying41 32 32 (by omega)
          rwa [List.take_of_length_le (by omega)] at this
        apply wp_region_rel_below_tail 6 [[(8, none)], [(46, some 0)], [(11, none)], [(48, some 2)], [(47, some 1), (49, some 3)], [(50, some 4)]] [eqv _, eqv _, eqv _, eqv _, eqv _, eqv _] (by kernel_rfl) (by kernel_rfl)
        case hobs =>
          refine ⟨?_, ?_⟩
          · rintro L a1 w1 hT - - ⟨h8, -⟩   -- 0: Op.move t8
            have e8 : a1.tmps.getD 8 undef = _ := h8
            have f8 := getD_form e8
            clear h8
            (go_simp; exact left_intro rfl (Stp.refl _) trivial)
          refine ⟨?_, ?_⟩
          · rintro L a1 w1 hT - - ⟨h46, -⟩   -- 1: Op.convert 36 9 t46
            have e46 : a1.tmps.getD 46 undef = _ := h46
            have f46 := getD_form e46
            clear h46
            have c46 := hcU w1 hT
            (go_simp; exact left_intro rfl (Stp.refl _) trivial)
          refine ⟨?_, ?_⟩
          · rintro L a1 w1 hT - - ⟨h11, -⟩   -- 2: Op.slice 25 t11 none none none
            have e11 : a1.tmps.getD 11 undef = _ := h11
            have f11 := getD_form e11
            clear h11
            (go_simp; exact left_intro rfl (Stp.refl _) trivial)
          refine ⟨?_, ?_⟩
          · rintro L a1 w1 hT - - ⟨h48, -⟩   -- 3: Op.convert 36 9 t48
            have e48 : a1.tmps.getD 48 undef = _ := h48
            have f48 := getD_form e48
            clear h48
            have c48 := hcX w1 hT
            (go_simp; exact left_intro rfl (Stp.refl _) trivial)
          refine ⟨?_, ?_⟩
          · rintro L a1 w1 hT - - ⟨h47, h49, -⟩   -- 4: Op.binOp BinOp.add 9 t47 t49 9
            have e47 : a1.tmps.getD 47 undef = _ := h47
            have f47 := getD_form e47
            have e49 : a1.tmps.getD 49 undef = _ := h49
            have f49 := getD_form e49
            clear h47 h49
            (go_simp; exact left_intro rfl (Stp.refl _) trivial)
          refine ⟨?_, ?_⟩
          · rintro L a1 w1 hT - - ⟨h50, -⟩   -- 5: Op.call { value (Operand.func 20), args := #[t50], argTypes := #[9] }
            have e50 : a1.tmps.getD 50 undef = _ := h50
            have f50 := getD_form e50
            clear h50
            (go_simp; go_at_call 32; (with_reducible refine (hsum2.out _).mono ?_); rintro e w2 ⟨rfl, hb⟩; exact left_intro rfl (Stp.of hb) trivial)
          trivial
        case hmono => repeat (first | exact trivial | refine ⟨fun _ _ _ _ h => h, ?_⟩)
        case hend =>
          intro w2 hT
          rintro _ rfl _ rfl _ rfl _ rfl _ rfl _ rfl
          have bO7 := bO6.at_ hT
          have bB7 := bB6.trans (hT.mono bB6.size)
          simp only [Act.put, List.setIfInBounds_toArray, List.set_cons_succ, List.set_cons_zero, List.drop_succ_cons, List.drop_zero]
          go_wp2_with ((refine wpList_store_blk (by rfl) 50 (.tmp 4) (.tmp 51) (by rfl) (0) (labA s2) (by rfl) (by rfl) (bO7) ((by rw [labA_size, labA_size, hm]; decide)) (size_lab s2 hm) (labA_all _) ?_; simp only [Act.put]); intro w9 b9 o9)
          rw [splice_all _ _ (by rw [labA_size, labA_size, hm]; decide)] at b9
          exact bodyPost_ret (v := .agg (labA s2)) (results_blk (by rfl) _ b9 _ (by rfl) Try.underlying50 (by rfl) (size_lab s2 hm)) rfl ⟨by rw [HMg.out], o9.below bB7 (Nat.le_refl _)⟩
  · have _tok := trivial
    have hs3 := Hs3.out
    clear Hs3
    have hA : Blk ((w3.alloc (.cells (labA z64) 5)).alloc (.cells (labA z64) 5)).drew w3.heap.size (labA z64) 5 := (Blk.new w3 (labA z64) 5).alloc _
    have hB : Blk ((w3.alloc (.cells (labA z64) 5)).alloc (.cells (labA z64) 5)).drew (w3.heap.size + 1) (labA z64) 5 := blk_new1 w3 _ _ _
    have bO2 := ((bO.alloc (.cells (labA z64) 5)).alloc (.cells (labA z64) 5)).drew
    have bK2 := ((bK.alloc (.cells (labA z64) 5)).alloc (.cells (labA z64) 5)).drew
    have hbel2 : Below w.heap.size w ((w3.alloc (.cells (labA z64) 5)).alloc (.cells (labA z64) 5)).drew := ((hbel.alloc (by omega) _).alloc (by simp; omega) _).drew
    clear bO bK hbel
    generalize ((w3.alloc (.cells (labA z64) 5)).alloc (.cells (labA z64) 5)).drew = w4 at *
    generalize hgB : w3.heap.size + 1 = gB at *
    generalize w3.heap.size = gA at *
    have bI := hB
    have bU := hA
    have hgi2 : w.heap.size + 2 ≤ gB := by omega
    have hgo2 : w.heap.size + 2 ≤ gA := by omega
    have hne : gB ≠ gA := by omega
    clear hA hB hgB hs3
    have hkl := S.key64_length key
    have hm := S.mac_length key text
    have hmac : S.mac key text = S.sum (S.xorL 92 (S.key64 key) ++ S.sum (S.xorL 54 (S.key64 key) ++ text)) := rfl
    generalize hMg : S.mac key text = M at *
    have HMg := Lib.hid hMg
    clear hMg
    have Hmac := Lib.hid hmac
    clear hmac
    generalize S.key64 key = K at *
    rw [show labA z64 = labA (S.xorTo 54 K 0) from by rw [S.xorTo_0]; rfl] at bI
    rw [show labA z64 = labA (S.xorTo 92 K 0) from by rw [S.xorTo_0]; rfl] at bU
    go_wp2_with (refine wpList_load_blk (by rfl) 121 (.tmp 5) (by rfl) 0 (by rfl) (bK2) (labA K) whole_at _ Try.underlying121 (by rfl) (size_b64 K hkl) ?_; simp only [Act.put, List.setIfInBounds_toArray, List.set_cons_succ, List.set_cons_zero])
    clear bK2
    go_loopw [26] (fun i wz => ∃ k : Nat, k ≤ 64 ∧ i = .int .i64 (k : Int) ∧ Blk wz gB (labA (S.xorTo 54 K k)) 5 ∧ Blk wz gA (labA (S.xorTo 92 K k)) 5 ∧ Blk wz w.heap.size (labA zlab) 50 ∧ Below w.heap.size w wz) (fun i _ => 64 - (intOf i).toNat)
    case atStart => exact ⟨0, by omega, rfl, bI, bU, bO2, hbel2⟩
    case round =>
      clear bI bU bO2 hbel2
      obtain ⟨k, hk64, rfl, bI, bU, bO, bB⟩ := hrel
      by_cases hlt : k < 64
      · have d1 : decide ((k : Int) < 64) = true := by simp; omega
        have hget := index_b64 K hkl k hlt
        have ci := bI.cellv (labA_get (S.xorTo 54 K k) k (by rw [S.xorTo_length _ _ hkl _ hk64]; exact hlt))
        have fi := bI.free k
        have pI := blk_put bI k (K.getD k 0 ^^^ 54)
        rw [S.xorTo_set _ _ hkl k hlt] at pI
        have pU0 := bU.far (p := ⟨gB, k, none⟩) (by simp; omega) (.int .u8 ((K.getD k 0 ^^^ 54).toNat : Int))
        have cu := pU0.cellv (labA_get (S.xorTo 92 K k) k (by rw [S.xorTo_length _ _ hkl _ hk64]; exact hlt))
        have fu := pU0.free k
        have pU := blk_put pU0 k (K.getD k 0 ^^^ 92)
        rw [S.xorTo_set _ _ hkl k hlt] at pU
        have pI2 := pI.far (p := ⟨gA, k, none⟩) (by simp; omega) (.int .u8 ((K.getD k 0 ^^^ 92).toNat : Int))
        have pO := (bO.far (p := ⟨gB, k, none⟩) (by simp; omega) (.int .u8 ((K.getD k 0 ^^^ 54).toNat : Int))).far (p := ⟨gA, k, none⟩) (by simp; omega) (.int .u8 ((K.getD k 0 ^^^ 92).toNat : Int))
        have pB := (bB.setCell (p := ⟨gB, k, none⟩) (by simp; omega) (.int .u8 ((K.getD k 0 ^^^ 54).toNat : Int))).setCell (p := ⟨gA, k, none⟩) (by simp; omega) (.int .u8 ((K.getD k 0 ^^^ 92).toNat : Int))
        have x1 := xor_u8 (K.getD k 0) 54
        have x2 := xor_u8 (K.getD k 0) 92
        rw [show ((54 : UInt8).toNat : Int) = 54 from rfl] at x1
        rw [show ((92 : UInt8).toNat : Int) = 92 from rfl] at x2
        generalize (K.getD k 0 ^^^ 54).toNat = X at *
        generalize (K.getD k 0 ^^^ 92).toNat = Y at *
        generalize (K.getD k 0).toNat = Z at *
        have jk : (0 : Int) ≤ (k : Int) := by omega
        have jk2 : (k : Int) < 64 := by omega
        clear pI pU0 bI bU bO bB
        go_wp2
        go_roundw
        case rel => exact ⟨k + 1, by omega, by go_num, pI2, pU, pO, pB⟩
        case measure => simp [intOf]; omega
      · obtain rfl : k = 64 := by omega
        rw [S.xorTo_64 _ _ hkl] at bI bU
        have hx1 : (S.xorL 54 K).length = 64 := by rw [S.xorL_length, hkl]
        have hx2 : (S.xorL 92 K).length = 64 := by rw [S.xorL_length, hkl]
        have hs1 := conv_blk bI 41 Try.underlying41 64 64 (by omega)
        rw [List.take_of_length_le (by omega)] at hs1
        have ha1 := str_add (S.xorL 54 K) text (by omega)
        have hsum1 := Lib.hid (fun W => sum_any (S.xorL 54 K ++ text) W (by rw [List.length_append]; omega))
        have hl1 := S.sum_length (S.xorL 54 K ++ text)
        generalize S.sum (S.xorL 54 K ++ text) = s1 at *
        have ha2 := str_add (S.xorL 92 K) s1 (by omega)
        have hsum2 := Lib.hid (fun W => sum_any (S.xorL 92 K ++ s1) W (by rw [List.length_append]; omega))
        have hM2 := Lib.hid (Hmac.out.symm)
        clear Hmac hkl
        generalize S.xorL 54 K ++ text = t1 at *
        generalize S.sum (S.xorL 92 K ++ s1) = s2 at *
        obtain rfl : s2 = M := hM2.out
        clear hM2
        go_wp2_with (first | (go_at_call 32; with_reducible refine (hsum1.out _).mono ?_; rintro e w5 ⟨rfl, hb5⟩) | (refine wpList_fresh (by rfl) 50 (by rfl) _ fresh_lab ?_; simp only [Act.put, List.setIfInBounds_toArray, List.set_cons_succ, List.set_cons_zero]; try simp only [World.size_alloc]) | ((refine wpList_store_blk (by rfl) 50 (.tmp 11) (.tmp 45) (by rfl) (0) (labA s1) (by rfl) (by rfl) ((Blk.new _ _ _)) ((by rw [labA_size, labA_size, hl1]; decide)) (size_lab s1 hl1) (labA_all _) ?_; simp only [Act.put]); intro w6 b6 o6; rw [splice_all _ _ (by rw [labA_size, labA_size, hl1]; decide)] at b6))
        have bel6 : Below wr.heap.size wr w6 := o6.below (hb5.alloc hb5.size _) hb5.size
        have bU6 := bU.at_ bel6
        have bO6 := bO.at_ bel6
        have bB6 := bB.trans (bel6.mono bB.size)
        clear bI bU bO bB hs1 ha1 o6 hb5 bel6
        generalize w5.heap.size = gX at *
        generalize S.xorL 92 K = k2 at *
        have hcU : ∀ W, Stp w6.drew W → (convert 41 9 (.slice (some ⟨gA, 0, none⟩) 64 64)).run Try.prog W = .ok (.string ⟨k2.toArray⟩) W := fun W h => by
          have := conv_blk (bU6.drew.at_ h) 41 Try.underlying41 64 64 (by omega)
          rwa [List.take_of_length_le (by omega)] at this
        have hcX : ∀ W, Stp w6.drew W → (convert 41 9 (.slice (some ⟨gX, 0, none⟩) 32 32)).run Try.prog W = .ok (.string ⟨s1.toArray⟩) W := fun W h => by
          have := conv_blk (b6.drew.at_ h) 41 Try.underlying41 32 32 (by omega)
          rwa [List.take_of_length_le (by omega)] at this
        apply wp_region_rel_below_tail 6 [[(8, none)], [(46, some 0)], [(11, none)], [(48, some 2)], [(47, some 1), (49, some 3)], [(50, some 4)]] [eqv _, eqv _, eqv _, eqv _, eqv _, eqv _] (by kernel_rfl) (by kernel_rfl)
        case hobs =>
          refine ⟨?_, ?_⟩
          · rintro L a1 w1 hT - - ⟨h8, -⟩   -- 0: Op.move t8
            have e8 : a1.tmps.getD 8 undef = _ := h8
            have f8 := getD_form e8
            clear h8
            (go_simp; exact left_intro rfl (Stp.refl _) trivial)
          refine ⟨?_, ?_⟩
          · rintro L a1 w1 hT - - ⟨h46, -⟩   -- 1: Op.convert 36 9 t46
            have e46 : a1.tmps.getD 46 undef = _ := h46
            have f46 := getD_form e46
            clear h46
            have c46 := hcU w1 hT
            (go_simp; exact left_intro rfl (Stp.refl _) trivial)
          refine ⟨?_, ?_⟩
          · rintro L a1 w1 hT - - ⟨h11, -⟩   -- 2: Op.slice 25 t11 none none none
            have e11 : a1.tmps.getD 11 undef = _ := h11
            have f11 := getD_form e11
            clear h11
            (go_simp; exact left_intro rfl (Stp.refl _) trivial)
          refine ⟨?_, ?_⟩
          · rintro L a1 w1 hT - - ⟨h48, -⟩   -- 3: Op.convert 36 9 t48
            have e48 : a1.tmps.getD 48 undef = _ := h48
            have f48 := getD_form e48
            clear h48
            have c48 := hcX w1 hT
            (go_simp; exact left_intro rfl (Stp.refl _) trivial)
          refine ⟨?_, ?_⟩
          · rintro L a1 w1 hT - - ⟨h47, h49, -⟩   -- 4: Op.binOp BinOp.add 9 t47 t49 9
            have e47 : a1.tmps.getD 47 undef = _ := h47
            have f47 := getD_form e47
            have e49 : a1.tmps.getD 49 undef = _ := h49
            have f49 := getD_form e49
            clear h47 h49
            (go_simp; exact left_intro rfl (Stp.refl _) trivial)
          refine ⟨?_, ?_⟩
          · rintro L a1 w1 hT - - ⟨h50, -⟩   -- 5: Op.call { value (Operand.func 20), args := #[t50], argTypes := #[9] }
            have e50 : a1.tmps.getD 50 undef = _ := h50
            have f50 := getD_form e50
            clear h50
            (go_simp; go_at_call 32; (with_reducible refine (hsum2.out _).mono ?_); rintro e w2 ⟨rfl, hb⟩; exact left_intro rfl (Stp.of hb) trivial)
          trivial
        case hmono => repeat (first | exact trivial | refine ⟨fun _ _ _ _ h => h, ?_⟩)
        case hend =>
          intro w2 hT
          rintro _ rfl _ rfl _ rfl _ rfl _ rfl _ rfl
          have bO7 := bO6.at_ hT
          have bB7 := bB6.trans (hT.mono bB6.size)
          simp only [Act.put, List.setIfInBounds_toArray, List.set_cons_succ, List.set_cons_zero, List.drop_succ_cons, List.drop_zero]
          go_wp2_with ((refine wpList_store_blk (by rfl) 50 (.tmp 4) (.tmp 51) (by rfl) (0) (labA s2) (by rfl) (by rfl) (bO7) ((by rw [labA_size, labA_size, hm]; decide)) (size_lab s2 hm) (labA_all _) ?_; simp only [Act.put]); intro w9 b9 o9)
          rw [splice_all _ _ (by rw [labA_size, labA_size, hm]; decide)] at b9
          exact bodyPost_ret (v := .agg (labA s2)) (results_blk (by rfl) _ b9 _ (by rfl) Try.underlying50 (by rfl) (size_lab s2 hm)) rfl ⟨by rw [HMg.out], o9.below bB7 (Nat.le_refl _)⟩
theorem mac_any (key text : List UInt8) (w : World) (hk : key.length ≤ 100000000000000) (ht : text.length ≤ 100000000000000) :
    Calls Try.prog 33 #[.string ⟨key.toArray⟩, .string ⟨text.toArray⟩] w fun e w' => e = .returned (.agg (labA (S.mac key text))) ∧ Below w.heap.size w w' := by
  rcases Nat.lt_or_ge 64 key.length with h | h
  · exact mac_long key text w h hk ht
  · exact mac_short key text w h ht
end Go.Proofs.Ytknkbioalohofaa
