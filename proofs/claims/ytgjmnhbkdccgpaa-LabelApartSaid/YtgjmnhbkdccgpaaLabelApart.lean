/- LabelApart: unlike identities or versions are unlike texts that are summed. No condition. -/
import Derived.Test.YtgjmnhbkdccgpaaWLAwake
import Derived.Test.YtgjmnhbkdccgpaaPureBack
namespace Go.Proofs.Ytgjmnhbkdccgpaa
open Go.ChangeShapes Go.WideShapes Go.ChangeAt Go.RowKit

namespace D
theorem numB_inj {n m : Nat} {x y : List UInt8} (hn : n < 18446744073709551616) (hm : m < 18446744073709551616) (h : numB n ++ x = numB m ++ y) : n = m ∧ x = y := by
  unfold numB at h
  rw [List.cons_append, List.cons_append] at h
  injection h with h1 h2
  have b1 := blen_le 8 n (by omega)
  have b2 := blen_le 8 m (by omega)
  have e : blen n = blen m := by
    have := congrArg UInt8.toNat h1
    rw [UInt8.toNat_ofNat', UInt8.toNat_ofNat'] at this
    omega
  have hl : (be n).length = (be m).length := by rw [be_len2, be_len2, e]
  obtain ⟨h3, h4⟩ := List.append_inj h2 hl
  exact ⟨by rw [← num_be n, ← num_be m, h3], h4⟩
end D
namespace L
theorem text_inj {a b : List UInt8} {v w : Int} (ha : a.length ≤ 60000) (hb : b.length ≤ 60000) (hv : 0 ≤ v ∧ v ≤ 1073741824) (hw : 0 ≤ w ∧ w ≤ 1073741824) (h : text a v = text b w) : a = b ∧ v = w := by
  unfold text D.textB at h
  rw [List.append_assoc, List.append_assoc] at h
  obtain ⟨h1, h2⟩ := D.numB_inj (by omega) (by omega) h
  obtain ⟨h3, h4⟩ := List.append_inj h2 h1
  rw [← List.append_nil (D.numB v.toNat), ← List.append_nil (D.numB w.toNat)] at h4
  have := (D.numB_inj (by omega) (by omega) h4).1
  exact ⟨h3, by omega⟩
theorem good_k : good [107] = true := by decide
theorem err_k (a : List UInt8) (v : Int) : err [107] a v = errT a v := by unfold err; rw [good_k]; rfl
end L
set_option maxRecDepth 100000 in
set_option maxHeartbeats 1000000 in
theorem apart_walk (a0 b0 : List UInt8) (v u : Int) (w : World) :
    Calls Try.prog 10 #[.string ⟨a0.toArray⟩, .string ⟨b0.toArray⟩, .int .i64 v, .int .i64 u] w fun e w' => e = .returned (.bool true) ∧ Below w.heap.size w w' := by
  have h0 := lcut_any a0 200
  have h00 := lcut_any b0 200
  rw [show ((200 : Nat) : Int) = 200 from rfl] at h0 h00
  have ha : (a0.take 200).length ≤ 200 := by rw [List.length_take]; omega
  have hb : (b0.take 200).length ≤ 200 := by rw [List.length_take]; omega
  generalize a0.take 200 = a at h0 ha
  generalize b0.take 200 = b at h00 hb
  have H0 := Lib.hid h0
  have H00 := Lib.hid h00
  clear h0 h00
  have EA := Lib.hid (fun W => r14err_any [107] a (by decide) (by omega) v W)
  have EB := Lib.hid (fun W => r14err_any [107] b (by decide) (by omega) u W)
  have hBw : Below w.heap.size w w := Below.refl _ _
  by_cases ea : L.err [107] a v = 0
  · by_cases eb : L.err [107] b u = 0
    · have hva := L.errT_zero (by rw [← L.err_k]; exact ea)
      have hvb := L.errT_zero (by rw [← L.err_k]; exact eb)
      have SA := Lib.hid (fun W => seed_any [107] a v (by omega) (by decide) W)
      have SB := Lib.hid (fun W => seed_any [107] b u (by omega) (by decide) W)
      rw [ea, show ((0 : Nat) : Int) = 0 from rfl] at SA EA
      rw [eb, show ((0 : Nat) : Int) = 0 from rfl] at SB EB
      obtain ⟨n, hn⟩ := Int.eq_ofNat_of_zero_le hva.1
      obtain ⟨m, hm⟩ := Int.eq_ofNat_of_zero_le hvb.1
      have TA := Lib.hid (fun W => r14text_any a (by omega) n (by omega) W)
      have TB := Lib.hid (fun W => r14text_any b (by omega) m (by omega) W)
      rw [← hn] at TA
      rw [← hm] at TB
      have hxa := L.seed_length [107] a v
      have hxb := L.seed_length [107] b u
      have hinj := @L.text_inj a b v u (by omega) (by omega) hva hvb
      clear ea eb hn hm
      by_cases hab : a = b
      · subst hab
        by_cases hvu : v = u
        · subst hvu
          have c1 : (v == v) = true := beq_self_eq_true v
          have hxx : (L.seed [107] a v == L.seed [107] a v) = true := beq_self_eq_true _
          generalize (⟨(L.text a v).toArray⟩ : ByteArray) = T at *
          generalize L.seed [107] a v = x at *
          have HE := Lib.hid (eql_lab x x hxa hxb)
          rw [hxx] at HE
          generalize (⟨a.toArray⟩ : ByteArray) = A at *
          clear hinj hva hvb
          go_enter Try.func10, Try.ntmps10
          go_wp2_with (first | (go_at_call 18; with_reducible refine (H0.out _).mono ?_; rintro e w0 ⟨rfl, rfl⟩) | (go_at_call 18; with_reducible refine (H00.out _).mono ?_; rintro e w0 ⟨rfl, rfl⟩) | (go_at_call 31; with_reducible refine (EA.out _).mono ?_; rintro e w1 ⟨rfl, hb1⟩; replace hBw := hBw.trans (hb1.mono hBw.size); clear hb1) | (go_at_call 31; with_reducible refine (EB.out _).mono ?_; rintro e w1 ⟨rfl, hb1⟩; replace hBw := hBw.trans (hb1.mono hBw.size); clear hb1) | (go_at_call 30; have hh := b9; clear hh; with_reducible refine (SB.out _).mono ?_; rintro e w4 ⟨rfl, hb4⟩; have b94 := b9.at_ hb4; replace hBw := hBw.trans (hb4.mono hBw.size); clear hb4) | (go_at_call 30; with_reducible refine (SA.out _).mono ?_; rintro e w2 ⟨rfl, hb2⟩; replace hBw := hBw.trans (hb2.mono hBw.size); clear hb2) | (refine wpList_fresh (by rfl) 25 (by rfl) _ fresh_lab ?_; simp only [Act.put, List.setIfInBounds_toArray, List.set_cons_succ, List.set_cons_zero]; try simp only [World.size_alloc]) | ((refine wpList_store_blk (by rfl) 25 (.tmp 10) (.tmp 41) (by rfl) (0) (labA x) (by rfl) (by rfl) ((Blk.new w2 (labA zlab) 25)) ((by rw [labA_size, labA_size, hxa]; decide)) (size_lab _ hxa) (labA_all _) ?_; simp only [Act.put]); intro w9 b9 o9; rw [splice_all _ _ (by rw [labA_size, labA_size, hxa]; decide)] at b9; replace hBw := o9.below (hBw.alloc hBw.size _) hBw.size; clear o9) | ((refine wpList_store_blk (by rfl) 25 (.tmp 12) (.tmp 47) (by rfl) (0) (labA x) (by rfl) (by rfl) ((Blk.new w4 (labA zlab) 25)) ((by rw [labA_size, labA_size, hxb]; decide)) (size_lab _ hxb) (labA_all _) ?_; simp only [Act.put]); intro w8 b8 o8; rw [splice_all _ _ (by rw [labA_size, labA_size, hxb]; decide)] at b8; have b98 := (b94.alloc (.cells (labA zlab) 25)).only o8 (by have := b94.lt; omega); replace hBw := o8.below (hBw.alloc hBw.size _) hBw.size; clear o8) | (go_at_call 32; with_reducible refine (lawake_any _).mono ?_; rintro e w5 ⟨rfl, hb1⟩; replace b98 := b98.at_ hb1; replace b8 := b8.at_ hb1; replace hBw := hBw.trans (hb1.mono hBw.size); clear hb1) | (go_at_call 36; with_reducible refine (TA.out _).mono ?_; rintro e w5 ⟨rfl, hb1⟩; replace b98 := b98.at_ hb1; replace b8 := b8.at_ hb1; replace hBw := hBw.trans (hb1.mono hBw.size); clear hb1) | (go_at_call 36; with_reducible refine (TB.out _).mono ?_; rintro e w5 ⟨rfl, hb1⟩; replace b98 := b98.at_ hb1; replace b8 := b8.at_ hb1; replace hBw := hBw.trans (hb1.mono hBw.size); clear hb1) | (refine wpList_load_blk (by rfl) 25 (.tmp 10) (by rfl) 0 (by rfl) (b98) (labA x) whole_at _ Try.underlying25 (by rfl) (size_lab _ hxa) ?_; simp only [Act.put, List.setIfInBounds_toArray, List.set_cons_succ, List.set_cons_zero]) | (refine wpList_load_blk (by rfl) 25 (.tmp 12) (by rfl) 0 (by rfl) (b8) (labA x) whole_at _ Try.underlying25 (by rfl) (size_lab _ hxb) ?_; simp only [Act.put, List.setIfInBounds_toArray, List.set_cons_succ, List.set_cons_zero]) | (refine wpList_bin (by rfl) .eql 25 25 (.tmp 73) (.tmp 74) (by rfl) (labA x) (labA x) (by rfl) (by rfl) guard_lab (.bool true) (HE.out) ?_; simp only [Act.put, List.setIfInBounds_toArray, List.set_cons_succ, List.set_cons_zero]))
          go_ret
          exact ⟨rfl, hBw⟩
        · have c1 : (v == u) = false := by simpa using hvu
          have hT := str_ne (a := L.text a v) (b := L.text a u) (fun e => hvu (hinj e).2)
          generalize (⟨(L.text a v).toArray⟩ : ByteArray) = T at *
          generalize (⟨(L.text a u).toArray⟩ : ByteArray) = T2 at *
          generalize L.seed [107] a v = x at *
          generalize L.seed [107] a u = y at *
          generalize (⟨a.toArray⟩ : ByteArray) = A at *
          clear hinj hva hvb
          go_enter Try.func10, Try.ntmps10
          go_wp2_with (first | (go_at_call 18; with_reducible refine (H0.out _).mono ?_; rintro e w0 ⟨rfl, rfl⟩) | (go_at_call 18; with_reducible refine (H00.out _).mono ?_; rintro e w0 ⟨rfl, rfl⟩) | (go_at_call 31; with_reducible refine (EA.out _).mono ?_; rintro e w1 ⟨rfl, hb1⟩; replace hBw := hBw.trans (hb1.mono hBw.size); clear hb1) | (go_at_call 31; with_reducible refine (EB.out _).mono ?_; rintro e w1 ⟨rfl, hb1⟩; replace hBw := hBw.trans (hb1.mono hBw.size); clear hb1) | (go_at_call 30; have hh := b9; clear hh; with_reducible refine (SB.out _).mono ?_; rintro e w4 ⟨rfl, hb4⟩; have b94 := b9.at_ hb4; replace hBw := hBw.trans (hb4.mono hBw.size); clear hb4) | (go_at_call 30; with_reducible refine (SA.out _).mono ?_; rintro e w2 ⟨rfl, hb2⟩; replace hBw := hBw.trans (hb2.mono hBw.size); clear hb2) | (refine wpList_fresh (by rfl) 25 (by rfl) _ fresh_lab ?_; simp only [Act.put, List.setIfInBounds_toArray, List.set_cons_succ, List.set_cons_zero]; try simp only [World.size_alloc]) | ((refine wpList_store_blk (by rfl) 25 (.tmp 10) (.tmp 41) (by rfl) (0) (labA x) (by rfl) (by rfl) ((Blk.new w2 (labA zlab) 25)) ((by rw [labA_size, labA_size, hxa]; decide)) (size_lab _ hxa) (labA_all _) ?_; simp only [Act.put]); intro w9 b9 o9; rw [splice_all _ _ (by rw [labA_size, labA_size, hxa]; decide)] at b9; replace hBw := o9.below (hBw.alloc hBw.size _) hBw.size; clear o9) | ((refine wpList_store_blk (by rfl) 25 (.tmp 12) (.tmp 47) (by rfl) (0) (labA y) (by rfl) (by rfl) ((Blk.new w4 (labA zlab) 25)) ((by rw [labA_size, labA_size, hxb]; decide)) (size_lab _ hxb) (labA_all _) ?_; simp only [Act.put]); intro w8 b8 o8; rw [splice_all _ _ (by rw [labA_size, labA_size, hxb]; decide)] at b8; have b98 := (b94.alloc (.cells (labA zlab) 25)).only o8 (by have := b94.lt; omega); replace hBw := o8.below (hBw.alloc hBw.size _) hBw.size; clear o8) | (go_at_call 32; with_reducible refine (lawake_any _).mono ?_; rintro e w5 ⟨rfl, hb1⟩; replace b98 := b98.at_ hb1; replace b8 := b8.at_ hb1; replace hBw := hBw.trans (hb1.mono hBw.size); clear hb1) | (go_at_call 36; with_reducible refine (TA.out _).mono ?_; rintro e w5 ⟨rfl, hb1⟩; replace b98 := b98.at_ hb1; replace b8 := b8.at_ hb1; replace hBw := hBw.trans (hb1.mono hBw.size); clear hb1) | (go_at_call 36; with_reducible refine (TB.out _).mono ?_; rintro e w5 ⟨rfl, hb1⟩; replace b98 := b98.at_ hb1; replace b8 := b8.at_ hb1; replace hBw := hBw.trans (hb1.mono hBw.size); clear hb1) | (refine wpList_load_blk (by rfl) 25 (.tmp 10) (by rfl) 0 (by rfl) (b98) (labA x) whole_at _ Try.underlying25 (by rfl) (size_lab _ hxa) ?_; simp only [Act.put, List.setIfInBounds_toArray, List.set_cons_succ, List.set_cons_zero]) | (refine wpList_load_blk (by rfl) 25 (.tmp 12) (by rfl) 0 (by rfl) (b8) (labA y) whole_at _ Try.underlying25 (by rfl) (size_lab _ hxb) ?_; simp only [Act.put, List.setIfInBounds_toArray, List.set_cons_succ, List.set_cons_zero]) | (refine wpList_bin (by rfl) .eql 25 25 (.tmp 73) (.tmp 74) (by rfl) (labA x) (labA y) (by rfl) (by rfl) guard_lab (.bool true) (HE.out) ?_; simp only [Act.put, List.setIfInBounds_toArray, List.set_cons_succ, List.set_cons_zero]))
          go_ret
          exact ⟨rfl, hBw⟩
      · have c0 := str_ne hab
        have hT := str_ne (a := L.text a v) (b := L.text b u) (fun e => hab (hinj e).1)
        generalize (⟨(L.text a v).toArray⟩ : ByteArray) = T at *
        generalize (⟨(L.text b u).toArray⟩ : ByteArray) = T2 at *
        generalize L.seed [107] a v = x at *
        generalize L.seed [107] b u = y at *
        generalize (⟨a.toArray⟩ : ByteArray) = A at *
        generalize (⟨b.toArray⟩ : ByteArray) = B at *
        clear hinj hva hvb hab
        go_enter Try.func10, Try.ntmps10
        go_wp2_with (first | (go_at_call 18; with_reducible refine (H0.out _).mono ?_; rintro e w0 ⟨rfl, rfl⟩) | (go_at_call 18; with_reducible refine (H00.out _).mono ?_; rintro e w0 ⟨rfl, rfl⟩) | (go_at_call 31; with_reducible refine (EA.out _).mono ?_; rintro e w1 ⟨rfl, hb1⟩; replace hBw := hBw.trans (hb1.mono hBw.size); clear hb1) | (go_at_call 31; with_reducible refine (EB.out _).mono ?_; rintro e w1 ⟨rfl, hb1⟩; replace hBw := hBw.trans (hb1.mono hBw.size); clear hb1) | (go_at_call 30; have hh := b9; clear hh; with_reducible refine (SB.out _).mono ?_; rintro e w4 ⟨rfl, hb4⟩; have b94 := b9.at_ hb4; replace hBw := hBw.trans (hb4.mono hBw.size); clear hb4) | (go_at_call 30; with_reducible refine (SA.out _).mono ?_; rintro e w2 ⟨rfl, hb2⟩; replace hBw := hBw.trans (hb2.mono hBw.size); clear hb2) | (refine wpList_fresh (by rfl) 25 (by rfl) _ fresh_lab ?_; simp only [Act.put, List.setIfInBounds_toArray, List.set_cons_succ, List.set_cons_zero]; try simp only [World.size_alloc]) | ((refine wpList_store_blk (by rfl) 25 (.tmp 10) (.tmp 41) (by rfl) (0) (labA x) (by rfl) (by rfl) ((Blk.new w2 (labA zlab) 25)) ((by rw [labA_size, labA_size, hxa]; decide)) (size_lab _ hxa) (labA_all _) ?_; simp only [Act.put]); intro w9 b9 o9; rw [splice_all _ _ (by rw [labA_size, labA_size, hxa]; decide)] at b9; replace hBw := o9.below (hBw.alloc hBw.size _) hBw.size; clear o9) | ((refine wpList_store_blk (by rfl) 25 (.tmp 12) (.tmp 47) (by rfl) (0) (labA y) (by rfl) (by rfl) ((Blk.new w4 (labA zlab) 25)) ((by rw [labA_size, labA_size, hxb]; decide)) (size_lab _ hxb) (labA_all _) ?_; simp only [Act.put]); intro w8 b8 o8; rw [splice_all _ _ (by rw [labA_size, labA_size, hxb]; decide)] at b8; have b98 := (b94.alloc (.cells (labA zlab) 25)).only o8 (by have := b94.lt; omega); replace hBw := o8.below (hBw.alloc hBw.size _) hBw.size; clear o8) | (go_at_call 32; with_reducible refine (lawake_any _).mono ?_; rintro e w5 ⟨rfl, hb1⟩; replace b98 := b98.at_ hb1; replace b8 := b8.at_ hb1; replace hBw := hBw.trans (hb1.mono hBw.size); clear hb1) | (go_at_call 36; with_reducible refine (TA.out _).mono ?_; rintro e w5 ⟨rfl, hb1⟩; replace b98 := b98.at_ hb1; replace b8 := b8.at_ hb1; replace hBw := hBw.trans (hb1.mono hBw.size); clear hb1) | (go_at_call 36; with_reducible refine (TB.out _).mono ?_; rintro e w5 ⟨rfl, hb1⟩; replace b98 := b98.at_ hb1; replace b8 := b8.at_ hb1; replace hBw := hBw.trans (hb1.mono hBw.size); clear hb1) | (refine wpList_load_blk (by rfl) 25 (.tmp 10) (by rfl) 0 (by rfl) (b98) (labA x) whole_at _ Try.underlying25 (by rfl) (size_lab _ hxa) ?_; simp only [Act.put, List.setIfInBounds_toArray, List.set_cons_succ, List.set_cons_zero]) | (refine wpList_load_blk (by rfl) 25 (.tmp 12) (by rfl) 0 (by rfl) (b8) (labA y) whole_at _ Try.underlying25 (by rfl) (size_lab _ hxb) ?_; simp only [Act.put, List.setIfInBounds_toArray, List.set_cons_succ, List.set_cons_zero]) | (refine wpList_bin (by rfl) .eql 25 25 (.tmp 73) (.tmp 74) (by rfl) (labA x) (labA y) (by rfl) (by rfl) guard_lab (.bool true) (HE.out) ?_; simp only [Act.put, List.setIfInBounds_toArray, List.set_cons_succ, List.set_cons_zero]))
        go_ret
        exact ⟨rfl, hBw⟩
    · have d1 : (((L.err [107] b u : Nat) : Int) != 0) = true := by rw [bne_iff_ne]; omega
      rw [ea, show ((0 : Nat) : Int) = 0 from rfl] at EA
      generalize L.err [107] b u = E at *
      clear ea eb
      go_enter Try.func10, Try.ntmps10
      go_wp2_with (first | (go_at_call 18; with_reducible refine (H0.out _).mono ?_; rintro e w0 ⟨rfl, rfl⟩) | (go_at_call 18; with_reducible refine (H00.out _).mono ?_; rintro e w0 ⟨rfl, rfl⟩) | (go_at_call 31; with_reducible refine (EA.out _).mono ?_; rintro e w1 ⟨rfl, hb1⟩; replace hBw := hBw.trans (hb1.mono hBw.size); clear hb1) | (go_at_call 31; with_reducible refine (EB.out _).mono ?_; rintro e w1 ⟨rfl, hb1⟩; replace hBw := hBw.trans (hb1.mono hBw.size); clear hb1) | (go_at_call 32; with_reducible refine (lawake_any _).mono ?_; rintro e w1 ⟨rfl, hb1⟩; replace hBw := hBw.trans (hb1.mono hBw.size); clear hb1))
      go_ret
      exact ⟨rfl, hBw⟩
  · have d1 : (((L.err [107] a v : Nat) : Int) != 0) = true := by rw [bne_iff_ne]; omega
    generalize L.err [107] a v = E at *
    clear ea
    go_enter Try.func10, Try.ntmps10
    go_wp2_with (first | (go_at_call 18; with_reducible refine (H0.out _).mono ?_; rintro e w0 ⟨rfl, rfl⟩) | (go_at_call 18; with_reducible refine (H00.out _).mono ?_; rintro e w0 ⟨rfl, rfl⟩) | (go_at_call 31; with_reducible refine (EA.out _).mono ?_; rintro e w1 ⟨rfl, hb1⟩; replace hBw := hBw.trans (hb1.mono hBw.size); clear hb1) | (go_at_call 31; with_reducible refine (EB.out _).mono ?_; rintro e w1 ⟨rfl, hb1⟩; replace hBw := hBw.trans (hb1.mono hBw.size); clear hb1) | (go_at_call 32; with_reducible refine (lawake_any _).mono ?_; rintro e w1 ⟨rfl, hb1⟩; replace hBw := hBw.trans (hb1.mono hBw.size); clear hb1))
    go_ret
    exact ⟨rfl, hBw⟩
set_option maxRecDepth 1000000 in
theorem apart_law : LawHolds 10 Try.f10 := by
  intro H enc W base args ds p hval hA
  rw [Try.params10] at hA hval
  obtain ⟨v0, vs0, d0, ds0, p0, q0, hargs, rfl, rfl, k0, r0⟩ := trodAll_cons hA
  obtain ⟨v1, vs1, d1, ds1, p1, q1, rfl, rfl, rfl, k1, r1⟩ := trodAll_cons r0
  obtain ⟨v2, vs2, d2, ds2, p2, q2, rfl, rfl, rfl, k2, r2⟩ := trodAll_cons r1
  obtain ⟨v3, vs3, d3, ds3, p3, q3, rfl, rfl, rfl, k3, r3⟩ := trodAll_cons r2
  obtain ⟨rfl, rfl, rfl⟩ := trodAll_nil r3
  obtain rfl : args = #[v0, v1, v2, v3] := by cases args; simp_all
  obtain ⟨l, rfl, _⟩ := open_text (hval 0 9 v0 rfl rfl) k0
  obtain ⟨m, rfl, _⟩ := open_text (hval 1 9 v1 rfl rfl) k1
  obtain ⟨x, rfl, _, _, _⟩ := open_int Try.underlying3 (hval 2 3 v2 rfl rfl) k2
  obtain ⟨y, rfl, _, _, _⟩ := open_int Try.underlying3 (hval 3 3 v3 rfl rfl) k3
  exact apart_walk l m x y W

theorem apart_lifted (os : Os) (started : os.Started) (H : Type) (enc : TypeId × Value → H) :
    ReturnsInHanded {} Try.checked os 10 .any (Rows.labelApartSpec.pre6 enc Try.prog Try.f10 Rows.labelApartRow.domain false) (Rows.labelApartSpec.post enc Try.prog Try.f10 false true false false) :=
  lifted_of started (by kernel_rfl) Try.func10
    (ChangeSpec.witness6 (enc := enc) (C := Try.checked) false ⟨#[], #[.string ⟨#[]⟩, .string ⟨#[]⟩, .int .i64 0, .int .i64 0], []⟩ 8 (by kernel_rfl) (by kernel_rfl) (by kernel_rfl) (by kernel_rfl))
    rfl (by kernel_rfl) (fun ds h => by rw [Try.params10] at h; match ds, h with | [_, _, _, _], _ => rfl) (by rw [Try.params10]; exact of_decide_eq_true (by kernel_rfl)) apart_law
theorem apart_over : Rows.labelApartRow.holds Try.pinned (OpenSpec.ofChange Rows.labelApartSpec) :=
  OpenClaim.holds_of_wide 10 Try.f10 rfl rfl rfl rfl rfl rfl rfl ⟨rfl, rfl, rfl, rfl, rfl⟩ rfl rfl rfl rfl rfl (by kernel_rfl) Try.func10 (by kernel_rfl)
    (of_decide_eq_true (by kernel_rfl)) (by unfold Func.isWrapper; first | (rw [if_pos (by decide +kernel)]; kernel_rfl) | (rw [if_neg (by decide +kernel)]; exact ⟨rfl, rfl⟩))
    (fun os started H enc _ => apart_lifted os started H enc)
/-- The statement. -/
theorem apart_proved : Rows.LabelApartSaid := apart_over
#print axioms apart_proved
end Go.Proofs.Ytgjmnhbkdccgpaa
