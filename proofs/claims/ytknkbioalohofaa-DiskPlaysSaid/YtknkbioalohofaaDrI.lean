/- The walk of the document's disk's Spoil. -/
import Derived.Test.YtknkbioalohofaaDrF
import Derived.Test.YtknkbioalohofaaDkG
import Derived.Test.YtknkbioalohofaaKit7
namespace Go.Proofs.Ytknkbioalohofaa
open Go.RowKit

set_option maxRecDepth 100000 in
set_option maxHeartbeats 4000000 in
theorem rspoil_any (M : D.Dk) (n : List UInt8) (t : Int) (y : UInt8) (v : Value) (w : World) (h : RDk w v M) (hM : Tame M) (ht : -9223372036854775808 ≤ t ∧ t < 9223372036854775808) :
    Calls Try.prog 87 #[v, .string ⟨n.toArray⟩, .int .i64 t, .int .u8 (y.toNat : Int)] w fun e w' => ∃ v', e = .returned (.tuple #[v', .int .i64 ((D.spoil M n t y).2 : Int)]) ∧ RDk w' v' (D.spoil M n t y).1 ∧ Below w.heap.size w w' := by
  obtain ⟨A, c, rfl, hrow⟩ := h
  have hri := hM.rise
  have hlen := hM.len
  have hus := hM.used
  obtain ⟨room, fuse, dead, l⟩ := M
  dsimp only at hri hlen hus hrow
  obtain ⟨D0, R0, hB0⟩ := two_new w #[.int .i64 room, .int .i64 fuse, .bool dead, .slice A l.length c] #[.int .i64 0, .int .i64 0, .bool false, .slice none 0 0] 76 76
  have hrow0 := hrow.at_ hB0
  change Calls Try.prog _ #[.agg #[.int .i64 room, .int .i64 fuse, .bool dead, .slice A l.length c], _, _, _] w _
  cases hf : D.fnd D.Fl.name n l with
  | none =>
    have RF := Lib.hid (show ∀ W (h : FRead W (.slice A l.length c) l), Calls Try.prog 52 #[.agg #[.int .i64 room, .int .i64 fuse, .bool dead, .slice A l.length c], .string ⟨n.toArray⟩] W fun e w' => e = .returned (.tuple #[.agg #[.string ⟨#[]⟩, .string ⟨#[]⟩, .int .i64 0], .bool false]) ∧ Below W.heap.size W w' from fun W h => by have h9 := rfind_any ⟨room, fuse, dead, l⟩ (.slice A l.length c) W h n hlen; dsimp only at h9; rw [hf] at h9; exact h9)
    have hR : D.spoil ⟨room, fuse, dead, l⟩ n t y = (⟨room, fuse, dead, l⟩, 7) := by unfold D.spoil; dsimp only; rw [hf]
    rw [hR]
    go_enter Try.func87, Try.ntmps87
    go_wp2_with (first | (go_at_call 52; (with_reducible refine (RF.out _ (fread_row hrow0)).mono ?_); rintro e w2 ⟨rfl, hb2⟩; have D4 := (D0.at_ hb2).alloc (.cells #[.string ⟨#[]⟩, .string ⟨#[]⟩, .int .i64 0] 81); have R4 := (R0.at_ hb2).alloc (.cells #[.string ⟨#[]⟩, .string ⟨#[]⟩, .int .i64 0] 81); have F4 := Blk.new w2 #[.string ⟨#[]⟩, .string ⟨#[]⟩, .int .i64 0] 81; have hB2 := hB0.trans (hb2.mono hB0.size); have hB4 := hB2.alloc hB2.size (.cells #[.string ⟨#[]⟩, .string ⟨#[]⟩, .int .i64 0] 81); have hlt2 := hb2.size; simp only [World.size_alloc] at hlt2; have hle2 : w.heap.size ≤ w2.heap.size := (by omega); have hne1 : w.heap.size ≠ w2.heap.size := (by omega); have hne2 : w2.heap.size ≠ w.heap.size := (by omega); have hne3 : w2.heap.size ≠ w.heap.size + 1 := (by omega); have hne4 : w.heap.size + 1 ≠ w2.heap.size := (by omega); clear hlt2; obtain ⟨x00, x01, x02, x03, y00, y01, y02, y03⟩ := free4 D4; obtain ⟨x10, x11, x12, x13, y10, y11, y12, y13⟩ := free4 R4))
    obtain ⟨b1, o1⟩ := blk4 R4 (.int .i64 room) (.int .i64 fuse) (.bool dead) (.slice A l.length c)
    exact bodyPost_ret (v := .tuple #[.agg #[.int .i64 room, .int .i64 fuse, .bool dead, .slice A l.length c], .int .i64 7]) (results_blk2 (by rfl) _ b1 _ _ (by rfl) (by rfl) Try.underlying76 (by rfl) (size_dskC _ _ _ _)) rfl ⟨_, rfl, ⟨A, c, rfl, FRow.at_ hrow (o1.below hB4 (by omega))⟩, o1.below hB4 (by omega)⟩
  | some f0 =>
    obtain ⟨nm, fb, fs⟩ := f0
    obtain ⟨hmem, hnm⟩ := D.fnd_mem D.Fl.name hf
    obtain rfl : nm = n := hnm
    have RF := Lib.hid (show ∀ W (h : FRead W (.slice A l.length c) l), Calls Try.prog 52 #[.agg #[.int .i64 room, .int .i64 fuse, .bool dead, .slice A l.length c], .string ⟨nm.toArray⟩] W fun e w' => e = .returned (.tuple #[.agg #[.string ⟨nm.toArray⟩, .string ⟨fb.toArray⟩, .int .i64 (fs : Int)], .bool true]) ∧ Below W.heap.size W w' from fun W h => by have h9 := rfind_any ⟨room, fuse, dead, l⟩ (.slice A l.length c) W h nm hlen; dsimp only at h9; rw [hf] at h9; exact h9)
    have hz : (⟨fb.toArray⟩ : ByteArray).size = fb.length := by simp [ByteArray.size]
    by_cases hout : t < 0 ∨ (fb.length : Int) ≤ t
    · have hR : D.spoil ⟨room, fuse, dead, l⟩ nm t y = (⟨room, fuse, dead, l⟩, 1) := by unfold D.spoil; dsimp only; rw [hf]; exact if_pos hout
      rw [hR]
      by_cases h0 : t < 0
      · have d0 : decide (t < 0) = true := decide_eq_true h0
        go_enter Try.func87, Try.ntmps87
        go_wp2_with (first | (go_at_call 52; (with_reducible refine (RF.out _ (fread_row hrow0)).mono ?_); rintro e w2 ⟨rfl, hb2⟩; have D4 := (D0.at_ hb2).alloc (.cells #[.string ⟨nm.toArray⟩, .string ⟨fb.toArray⟩, .int .i64 (fs : Int)] 81); have R4 := (R0.at_ hb2).alloc (.cells #[.string ⟨nm.toArray⟩, .string ⟨fb.toArray⟩, .int .i64 (fs : Int)] 81); have F4 := Blk.new w2 #[.string ⟨nm.toArray⟩, .string ⟨fb.toArray⟩, .int .i64 (fs : Int)] 81; have hB2 := hB0.trans (hb2.mono hB0.size); have hB4 := hB2.alloc hB2.size (.cells #[.string ⟨nm.toArray⟩, .string ⟨fb.toArray⟩, .int .i64 (fs : Int)] 81); have hlt2 := hb2.size; simp only [World.size_alloc] at hlt2; have hle2 : w.heap.size ≤ w2.heap.size := (by omega); have hne1 : w.heap.size ≠ w2.heap.size := (by omega); have hne2 : w2.heap.size ≠ w.heap.size := (by omega); have hne3 : w2.heap.size ≠ w.heap.size + 1 := (by omega); have hne4 : w.heap.size + 1 ≠ w2.heap.size := (by omega); clear hlt2; obtain ⟨x00, x01, x02, x03, y00, y01, y02, y03⟩ := free4 D4; obtain ⟨x10, x11, x12, x13, y10, y11, y12, y13⟩ := free4 R4))
        obtain ⟨b1, o1⟩ := blk4 R4 (.int .i64 room) (.int .i64 fuse) (.bool dead) (.slice A l.length c)
        exact bodyPost_ret (v := .tuple #[.agg #[.int .i64 room, .int .i64 fuse, .bool dead, .slice A l.length c], .int .i64 1]) (results_blk2 (by rfl) _ b1 _ _ (by rfl) (by rfl) Try.underlying76 (by rfl) (size_dskC _ _ _ _)) rfl ⟨_, rfl, ⟨A, c, rfl, FRow.at_ hrow (o1.below hB4 (by omega))⟩, o1.below hB4 (by omega)⟩
      · have d0 : decide (t < 0) = false := decide_eq_false h0
        have d1 : decide ((fb.length : Int) ≤ t) = true := decide_eq_true (by omega)
        go_enter Try.func87, Try.ntmps87
        go_wp2_with (first | (go_at_call 52; (with_reducible refine (RF.out _ (fread_row hrow0)).mono ?_); rintro e w2 ⟨rfl, hb2⟩; have D4 := (D0.at_ hb2).alloc (.cells #[.string ⟨nm.toArray⟩, .string ⟨fb.toArray⟩, .int .i64 (fs : Int)] 81); have R4 := (R0.at_ hb2).alloc (.cells #[.string ⟨nm.toArray⟩, .string ⟨fb.toArray⟩, .int .i64 (fs : Int)] 81); have F4 := Blk.new w2 #[.string ⟨nm.toArray⟩, .string ⟨fb.toArray⟩, .int .i64 (fs : Int)] 81; have hB2 := hB0.trans (hb2.mono hB0.size); have hB4 := hB2.alloc hB2.size (.cells #[.string ⟨nm.toArray⟩, .string ⟨fb.toArray⟩, .int .i64 (fs : Int)] 81); have hlt2 := hb2.size; simp only [World.size_alloc] at hlt2; have hle2 : w.heap.size ≤ w2.heap.size := (by omega); have hne1 : w.heap.size ≠ w2.heap.size := (by omega); have hne2 : w2.heap.size ≠ w.heap.size := (by omega); have hne3 : w2.heap.size ≠ w.heap.size + 1 := (by omega); have hne4 : w.heap.size + 1 ≠ w2.heap.size := (by omega); clear hlt2; obtain ⟨x00, x01, x02, x03, y00, y01, y02, y03⟩ := free4 D4; obtain ⟨x10, x11, x12, x13, y10, y11, y12, y13⟩ := free4 R4))
        obtain ⟨b1, o1⟩ := blk4 R4 (.int .i64 room) (.int .i64 fuse) (.bool dead) (.slice A l.length c)
        exact bodyPost_ret (v := .tuple #[.agg #[.int .i64 room, .int .i64 fuse, .bool dead, .slice A l.length c], .int .i64 1]) (results_blk2 (by rfl) _ b1 _ _ (by rfl) (by rfl) Try.underlying76 (by rfl) (size_dskC _ _ _ _)) rfl ⟨_, rfl, ⟨A, c, rfl, FRow.at_ hrow (o1.below hB4 (by omega))⟩, o1.below hB4 (by omega)⟩
    · obtain ⟨k, rfl⟩ : ∃ k : Nat, t = (k : Int) := ⟨t.toNat, by omega⟩
      have hk : k < fb.length := by omega
      have hR : D.spoil ⟨room, fuse, dead, l⟩ nm (k : Int) y = (⟨room, fuse, dead, D.upd D.Fl.name nm (fun f => { f with b := f.b.set k (f.b.getD k 0 ^^^ y) }) l⟩, 0) := by
        unfold D.spoil; dsimp only; rw [hf]; show (if _ then _ else _) = _; rw [if_neg hout, Int.toNat_natCast]
      have hP : D.putGo ⟨nm, fb.set k (fb.getD k 0 ^^^ y), fs⟩ false l = D.upd D.Fl.name nm (fun f => { f with b := f.b.set k (f.b.getD k 0 ^^^ y) }) l := D.put_old hri hf rfl rfl
      rw [hR, ← hP]
      have d0 : decide ((k : Int) < 0) = false := decide_eq_false (by omega)
      have d1 : decide ((fb.length : Int) ≤ (k : Int)) = false := decide_eq_false (by omega)
      have d2 : decide (fb.length ≤ k) = false := decide_eq_false (by omega)
      have q0 : (0 : Int) ≤ (k : Int) := by omega
      have q1 : (k : Int) < (fb.length : Int) := by omega
      have RP := Lib.hid (fun W (h : FRead W (.slice A l.length c) l) => rput_any ⟨room, fuse, dead, l⟩ ⟨nm, fb.set k (fb.getD k 0 ^^^ y), fs⟩ A c W h hlen)
      unfold dskV filV at RP
      dsimp only at RP
      have hx := (fb.getD k 0).toNat_lt
      have hy := y.toNat_lt
      have hxor := u8_xor_nat (fb.getD k 0).toNat y.toNat hx hy
      rw [← UInt8.toNat_xor] at hxor
      have HG : ∀ z, (fb ++ List.replicate z 0).getD k 0 = fb.getD k 0 := fun z => by
        rw [List.getD_eq_getElem?_getD, List.getElem?_append_left hk, List.getD_eq_getElem?_getD]
      have HT : ∀ z (u : UInt8), ((fb ++ List.replicate z 0).set k u).take fb.length = fb.set k u := fun z u => by
        rw [List.set_append_left _ _ hk, List.take_append_of_le_length (by rw [List.length_set]; exact Nat.le_refl _), List.take_of_length_le (by rw [List.length_set]; exact Nat.le_refl _)]
      generalize D.putGo ⟨nm, fb.set k (fb.getD k 0 ^^^ y), fs⟩ false l = L' at *
      generalize fb.getD k 0 = x at *
      generalize hu : x ^^^ y = u at *
      have Hu := Lib.hid hu
      clear hR hP hri hf hmem hout hu
      have HK := Lib.hid hk
      have HG' := Lib.hid HG
      have HT' := Lib.hid (fun z => HT z u)
      clear hk HG HT
      have HL := Lib.hid (show fb.length ≤ fb.length from Nat.le_refl _)
      go_enter Try.func87, Try.ntmps87
      go_wp2_with (first | (go_at_call 52; (with_reducible refine (RF.out _ (fread_row hrow0)).mono ?_); rintro e w2 ⟨rfl, hb2⟩; go_loud (have D3 := (D0.at_ hb2).alloc (.cells #[.string ⟨nm.toArray⟩, .string ⟨fb.toArray⟩, .int .i64 (fs : Int)] 81); have R3 := (R0.at_ hb2).alloc (.cells #[.string ⟨nm.toArray⟩, .string ⟨fb.toArray⟩, .int .i64 (fs : Int)] 81); have F3 := Blk.new w2 #[.string ⟨nm.toArray⟩, .string ⟨fb.toArray⟩, .int .i64 (fs : Int)] 81; have hB2 := hB0.trans (hb2.mono hB0.size); have hB3 := hB2.alloc hB2.size (.cells #[.string ⟨nm.toArray⟩, .string ⟨fb.toArray⟩, .int .i64 (fs : Int)] 81); obtain ⟨W, cap, z, hcv, hBc, hszc, hcap, hF⟩ := bytes_blk fb (w2.alloc (.cells #[.string ⟨nm.toArray⟩, .string ⟨fb.toArray⟩, .int .i64 (fs : Int)] 81)) 41 Try.underlying41; rw [World.size_alloc] at hcv hF; have hlt2 := hb2.size; simp only [World.size_alloc] at hlt2; have hle2 : w.heap.size ≤ w2.heap.size := (by omega); have hne1 : w.heap.size ≠ w2.heap.size := (by omega); have hne2 : w2.heap.size ≠ w.heap.size := (by omega); have hne3 : w2.heap.size ≠ w.heap.size + 1 := (by omega); have hne4 : w.heap.size + 1 ≠ w2.heap.size := (by omega); have hne5 : w.heap.size ≠ w2.heap.size + 1 := (by omega); have hne6 : w2.heap.size + 1 ≠ w.heap.size := (by omega); have D4 := D3.at_ hBc; have R4 := R3.at_ hBc; have F4 := F3.at_ hBc; have hB4 := hB3.trans (hBc.mono hB3.size); clear hlt2 hszc hcap; obtain ⟨x00, x01, x02, x03, y00, y01, y02, y03⟩ := free4 D4; obtain ⟨x20, x21, x22, y20, y21, y22⟩ := free3 F4; have kc := blkF_bytes hF k (by have := HK.out; rw [List.length_append]; omega); have kf := hF.free k (by have := HK.out; rw [labA_size, List.length_append]; omega); rw [HG'.out] at kc; have hF2 := blkF_put hF k u; have hcs := conv_blkF hF2 41 Try.underlying41 fb.length cap (by rw [List.length_set, List.length_append]; omega); rw [HT'.out] at hcs)) | (go_at_call 97; go_loud (have o5 := Only.setCell W (w2.heap.size + 1) k (.int .u8 (u.toNat : Int)); have o6 := Only.setCell (W.setCell ⟨w2.heap.size + 1, k, none⟩ (.int .u8 (u.toNat : Int))) w2.heap.size 1 (.string ⟨(fb.set k u).toArray⟩); have hB6 := o6.below (o5.below hB4 (by omega)) hle2; have R6 := (R4.only o5 (by omega)).only o6 hne4; have hrow6 := FRow.at_ hrow hB6; (with_reducible refine (RP.out _ (fread_row hrow6)).mono ?_); rintro e w7 ⟨A7, c7, rfl, hrow7, hb7⟩; have R7 := R6.at_ hb7; have hB7 := hB6.trans (hb7.mono hB6.size); obtain ⟨p10, p11, p12, p13, q10, q11, q12, q13⟩ := free4 R7)))
      obtain ⟨b1, o1⟩ := blk4 R7 (.int .i64 room) (.int .i64 fuse) (.bool dead) (.slice A7 L'.length c7)
      exact bodyPost_ret (v := .tuple #[.agg #[.int .i64 room, .int .i64 fuse, .bool dead, .slice A7 L'.length c7], .int .i64 0]) (results_blk2 (by rfl) _ b1 _ _ (by rfl) (by rfl) Try.underlying76 (by rfl) (size_dskC _ _ _ _)) rfl ⟨_, rfl, ⟨A7, c7, rfl, RowN.only hrow7 R7 (by decide) o1⟩, o1.below hB7 (by omega)⟩
end Go.Proofs.Ytknkbioalohofaa
