/- The walk of the document's disk's Rename. -/
import Derived.Test.YtknkbioalohofaaDrF
import Derived.Test.YtknkbioalohofaaRel
namespace Go.Proofs.Ytknkbioalohofaa
open Go.RowKit

/-- A disk of the document's, as what lasts while memory is made. -/
def rdR (room fuse : Int) (dead : Bool) (l : List D.Fl) : Value → World → Prop := fun v w => ∃ s : Option Addr × Nat, v = .agg #[.int .i64 room, .int .i64 fuse, .bool dead, .slice s.1 l.length s.2] ∧ FRow w (.slice s.1 l.length s.2) l
theorem mono_rdR (room fuse : Int) (dead : Bool) (l : List D.Fl) : ∀ v w w', Stp w w' → rdR room fuse dead l v w → rdR room fuse dead l v w' := fun _ _ _ hs ⟨s, h1, h2⟩ => ⟨s, h1, FRow.at_ h2 hs⟩
theorem store5F {W : World} {g0 g2 : Nat} {a b c : Value} {t : TypeId} (h : Blk W g2 #[a, b, c] t) (n : g2 ≠ g0) (x y z u p : Value) : Blk (((((W.setCell ⟨g0, 0, none⟩ x).setCell ⟨g0, 1, none⟩ y).setCell ⟨g0, 2, none⟩ z).setCell ⟨g0, 3, none⟩ u).setCell ⟨g2, 0, none⟩ p) g2 #[p, b, c] t :=
  ((((h.far (p := ⟨g0, 0, none⟩) n x).far (p := ⟨g0, 1, none⟩) n y).far (p := ⟨g0, 2, none⟩) n z).far (p := ⟨g0, 3, none⟩) n u).set_ 0 p
set_option maxRecDepth 100000 in
set_option maxHeartbeats 4000000 in
theorem rrename_any (M : D.Dk) (n m : List UInt8) (v : Value) (w : World) (h : RDk w v M) (hM : Tame M) :
    Calls Try.prog 83 #[v, .string ⟨n.toArray⟩, .string ⟨m.toArray⟩] w fun e w' => ∃ v', e = .returned (.tuple #[v', .int .i64 ((D.rename M n m).2 : Int)]) ∧ RDk w' v' (D.rename M n m).1 ∧ Below w.heap.size w w' := by
  obtain ⟨A, c, rfl, hrow⟩ := h
  have hri := hM.rise
  have hlen := hM.len
  have hus := hM.used
  have hfu := hM.fuse
  obtain ⟨room, fuse, dead, l⟩ := M
  dsimp only at hri hlen hus hfu hrow
  have RD := Lib.hid (fun W => rdeed_any ⟨room, fuse, dead, l⟩ A l.length c W (by show -9223372036854775807 ≤ fuse ∧ fuse ≤ 9223372036854775807; omega))
  obtain ⟨D0, R0, hB0⟩ := two_new w #[.int .i64 room, .int .i64 fuse, .bool dead, .slice A l.length c] #[.int .i64 0, .int .i64 0, .bool false, .slice none 0 0] 76 76
  have hrow0 := hrow.at_ hB0
  change Calls Try.prog _ #[.agg #[.int .i64 room, .int .i64 fuse, .bool dead, .slice A l.length c], _, _] w _
  unfold dskV at RD
  dsimp only at RD
  cases dead with
  | true =>
    rw [D.rename_dead (M := ⟨room, fuse, true, l⟩) rfl]
    go_enter Try.func83, Try.ntmps83
    go_wp2
    obtain ⟨-, b1, hb⟩ := two_new w #[.int .i64 room, .int .i64 fuse, .bool true, .slice A l.length c] #[.int .i64 room, .int .i64 fuse, .bool true, .slice A l.length c] 76 76
    exact bodyPost_ret (v := .tuple #[.agg #[.int .i64 room, .int .i64 fuse, .bool true, .slice A l.length c], .int .i64 10]) (results_blk2 (by rfl) _ b1 _ _ (by rfl) (by rfl) Try.underlying76 (by rfl) (size_dskC _ _ _ _)) rfl ⟨_, rfl, ⟨A, c, rfl, hrow.at_ hb⟩, hb⟩
  | false =>
    have GG := Lib.hid (fun W => rgood_any m W)
    cases hg : D.good m with
    | false =>
      rw [hg] at GG
      rw [D.rename_bad (M := ⟨room, fuse, false, l⟩) rfl hg]
      cases hf : D.fnd D.Fl.name n l with
      | none =>
        have RF := Lib.hid (show ∀ W (h : FRead W (.slice A l.length c) l), Calls Try.prog 52 #[.agg #[.int .i64 room, .int .i64 fuse, .bool false, .slice A l.length c], .string ⟨n.toArray⟩] W fun e w' => e = .returned (.tuple #[.agg #[.string ⟨#[]⟩, .string ⟨#[]⟩, .int .i64 0], .bool false]) ∧ Below W.heap.size W w' from fun W h => by have h9 := rfind_any ⟨room, fuse, false, l⟩ (.slice A l.length c) W h n hlen; dsimp only at h9; rw [hf] at h9; exact h9)
        go_enter Try.func83, Try.ntmps83
        go_wp2_with (first | (go_at_call 52; (with_reducible refine (RF.out _ (fread_row hrow0)).mono ?_); rintro e w2 ⟨rfl, hb2⟩; have D4 := (D0.at_ hb2).alloc (.cells #[.string ⟨#[]⟩, .string ⟨#[]⟩, .int .i64 0] 81); have R4 := (R0.at_ hb2).alloc (.cells #[.string ⟨#[]⟩, .string ⟨#[]⟩, .int .i64 0] 81); have F4 := Blk.new w2 #[.string ⟨#[]⟩, .string ⟨#[]⟩, .int .i64 0] 81; have hB2 := hB0.trans (hb2.mono hB0.size); have hB4 := hB2.alloc hB2.size (.cells #[.string ⟨#[]⟩, .string ⟨#[]⟩, .int .i64 0] 81); have hlt2 := hb2.size; simp only [World.size_alloc] at hlt2; have hle2 : w.heap.size ≤ w2.heap.size := (by omega); have hne1 : w.heap.size ≠ w2.heap.size := (by omega); have hne2 : w2.heap.size ≠ w.heap.size := (by omega); have hne3 : w2.heap.size ≠ w.heap.size + 1 := (by omega); have hne4 : w.heap.size + 1 ≠ w2.heap.size := (by omega); clear hlt2; obtain ⟨x00, x01, x02, x03, y00, y01, y02, y03⟩ := free4 D4; obtain ⟨x10, x11, x12, x13, y10, y11, y12, y13⟩ := free4 R4) | (go_at_call 95; (with_reducible refine (GG.out _).mono ?_); rintro e w1 ⟨rfl, rfl⟩))
        obtain ⟨b1, o1⟩ := blk4 R4 (.int .i64 room) (.int .i64 fuse) (.bool false) (.slice A l.length c)
        exact bodyPost_ret (v := .tuple #[.agg #[.int .i64 room, .int .i64 fuse, .bool false, .slice A l.length c], .int .i64 1]) (results_blk2 (by rfl) _ b1 _ _ (by rfl) (by rfl) Try.underlying76 (by rfl) (size_dskC _ _ _ _)) rfl ⟨_, rfl, ⟨A, c, rfl, FRow.at_ hrow (o1.below hB4 (by omega))⟩, o1.below hB4 (by omega)⟩
      | some f0 =>
        obtain ⟨nm, fb, fs⟩ := f0
        obtain ⟨hmem, hnm⟩ := D.fnd_mem D.Fl.name hf
        obtain rfl : nm = n := hnm
        have RF := Lib.hid (show ∀ W (h : FRead W (.slice A l.length c) l), Calls Try.prog 52 #[.agg #[.int .i64 room, .int .i64 fuse, .bool false, .slice A l.length c], .string ⟨nm.toArray⟩] W fun e w' => e = .returned (.tuple #[.agg #[.string ⟨nm.toArray⟩, .string ⟨fb.toArray⟩, .int .i64 (fs : Int)], .bool true]) ∧ Below W.heap.size W w' from fun W h => by have h9 := rfind_any ⟨room, fuse, false, l⟩ (.slice A l.length c) W h nm hlen; dsimp only at h9; rw [hf] at h9; exact h9)
        go_enter Try.func83, Try.ntmps83
        go_wp2_with (first | (go_at_call 52; (with_reducible refine (RF.out _ (fread_row hrow0)).mono ?_); rintro e w2 ⟨rfl, hb2⟩; have D4 := (D0.at_ hb2).alloc (.cells #[.string ⟨nm.toArray⟩, .string ⟨fb.toArray⟩, .int .i64 (fs : Int)] 81); have R4 := (R0.at_ hb2).alloc (.cells #[.string ⟨nm.toArray⟩, .string ⟨fb.toArray⟩, .int .i64 (fs : Int)] 81); have F4 := Blk.new w2 #[.string ⟨nm.toArray⟩, .string ⟨fb.toArray⟩, .int .i64 (fs : Int)] 81; have hB2 := hB0.trans (hb2.mono hB0.size); have hB4 := hB2.alloc hB2.size (.cells #[.string ⟨nm.toArray⟩, .string ⟨fb.toArray⟩, .int .i64 (fs : Int)] 81); have hlt2 := hb2.size; simp only [World.size_alloc] at hlt2; have hle2 : w.heap.size ≤ w2.heap.size := (by omega); have hne1 : w.heap.size ≠ w2.heap.size := (by omega); have hne2 : w2.heap.size ≠ w.heap.size := (by omega); have hne3 : w2.heap.size ≠ w.heap.size + 1 := (by omega); have hne4 : w.heap.size + 1 ≠ w2.heap.size := (by omega); clear hlt2; obtain ⟨x00, x01, x02, x03, y00, y01, y02, y03⟩ := free4 D4; obtain ⟨x10, x11, x12, x13, y10, y11, y12, y13⟩ := free4 R4) | (go_at_call 95; (with_reducible refine (GG.out _).mono ?_); rintro e w1 ⟨rfl, rfl⟩))
        obtain ⟨b1, o1⟩ := blk4 R4 (.int .i64 room) (.int .i64 fuse) (.bool false) (.slice A l.length c)
        exact bodyPost_ret (v := .tuple #[.agg #[.int .i64 room, .int .i64 fuse, .bool false, .slice A l.length c], .int .i64 1]) (results_blk2 (by rfl) _ b1 _ _ (by rfl) (by rfl) Try.underlying76 (by rfl) (size_dskC _ _ _ _)) rfl ⟨_, rfl, ⟨A, c, rfl, FRow.at_ hrow (o1.below hB4 (by omega))⟩, o1.below hB4 (by omega)⟩
    | true =>
      rw [hg] at GG
      cases hf : D.fnd D.Fl.name n l with
      | none =>
        have RF := Lib.hid (show ∀ W (h : FRead W (.slice A l.length c) l), Calls Try.prog 52 #[.agg #[.int .i64 room, .int .i64 fuse, .bool false, .slice A l.length c], .string ⟨n.toArray⟩] W fun e w' => e = .returned (.tuple #[.agg #[.string ⟨#[]⟩, .string ⟨#[]⟩, .int .i64 0], .bool false]) ∧ Below W.heap.size W w' from fun W h => by have h9 := rfind_any ⟨room, fuse, false, l⟩ (.slice A l.length c) W h n hlen; dsimp only at h9; rw [hf] at h9; exact h9)
        rw [D.rename_none (M := ⟨room, fuse, false, l⟩) rfl hg hf]
        go_enter Try.func83, Try.ntmps83
        go_wp2_with (first | (go_at_call 52; (with_reducible refine (RF.out _ (fread_row hrow0)).mono ?_); rintro e w2 ⟨rfl, hb2⟩; have D4 := (D0.at_ hb2).alloc (.cells #[.string ⟨#[]⟩, .string ⟨#[]⟩, .int .i64 0] 81); have R4 := (R0.at_ hb2).alloc (.cells #[.string ⟨#[]⟩, .string ⟨#[]⟩, .int .i64 0] 81); have F4 := Blk.new w2 #[.string ⟨#[]⟩, .string ⟨#[]⟩, .int .i64 0] 81; have hB2 := hB0.trans (hb2.mono hB0.size); have hB4 := hB2.alloc hB2.size (.cells #[.string ⟨#[]⟩, .string ⟨#[]⟩, .int .i64 0] 81); have hlt2 := hb2.size; simp only [World.size_alloc] at hlt2; have hle2 : w.heap.size ≤ w2.heap.size := (by omega); have hne1 : w.heap.size ≠ w2.heap.size := (by omega); have hne2 : w2.heap.size ≠ w.heap.size := (by omega); have hne3 : w2.heap.size ≠ w.heap.size + 1 := (by omega); have hne4 : w.heap.size + 1 ≠ w2.heap.size := (by omega); clear hlt2; obtain ⟨x00, x01, x02, x03, y00, y01, y02, y03⟩ := free4 D4; obtain ⟨x10, x11, x12, x13, y10, y11, y12, y13⟩ := free4 R4) | (go_at_call 95; (with_reducible refine (GG.out _).mono ?_); rintro e w1 ⟨rfl, rfl⟩))
        obtain ⟨b1, o1⟩ := blk4 R4 (.int .i64 room) (.int .i64 fuse) (.bool false) (.slice A l.length c)
        exact bodyPost_ret (v := .tuple #[.agg #[.int .i64 room, .int .i64 fuse, .bool false, .slice A l.length c], .int .i64 7]) (results_blk2 (by rfl) _ b1 _ _ (by rfl) (by rfl) Try.underlying76 (by rfl) (size_dskC _ _ _ _)) rfl ⟨_, rfl, ⟨A, c, rfl, FRow.at_ hrow (o1.below hB4 (by omega))⟩, o1.below hB4 (by omega)⟩
      | some f0 =>
        obtain ⟨nm, fb, fs⟩ := f0
        obtain ⟨hmem, hnm⟩ := D.fnd_mem D.Fl.name hf
        obtain rfl : nm = n := hnm
        have RF := Lib.hid (show ∀ W (h : FRead W (.slice A l.length c) l), Calls Try.prog 52 #[.agg #[.int .i64 room, .int .i64 fuse, .bool false, .slice A l.length c], .string ⟨nm.toArray⟩] W fun e w' => e = .returned (.tuple #[.agg #[.string ⟨nm.toArray⟩, .string ⟨fb.toArray⟩, .int .i64 (fs : Int)], .bool true]) ∧ Below W.heap.size W w' from fun W h => by have h9 := rfind_any ⟨room, fuse, false, l⟩ (.slice A l.length c) W h nm hlen; dsimp only at h9; rw [hf] at h9; exact h9)
        have hdf := D.deed_files ⟨room, fuse, false, l⟩
        by_cases he : (D.deed ⟨room, fuse, false, l⟩).2 = 0
        · rw [D.rename_ok (M := ⟨room, fuse, false, l⟩) rfl hg hf he]
          have hP : D.putGo ⟨m, fb, fs⟩ false (D.drp D.Fl.name nm l) = D.ins D.Fl.name ⟨m, fb, fs⟩ (D.drp D.Fl.name m (D.drp D.Fl.name nm l)) := D.putGo_eq _ _ (hri.drp nm)
          show Calls _ _ _ _ (fun e w' => ∃ v', e = _ ∧ RDk w' v' { (D.deed ⟨room, fuse, false, l⟩).1 with files := D.ins D.Fl.name ⟨m, fb, fs⟩ (D.drp D.Fl.name m (D.drp D.Fl.name nm l)) } ∧ _)
          rw [← hP]
          generalize D.deed ⟨room, fuse, false, l⟩ = DD at *
          obtain ⟨⟨room1, fuse1, dead1, l1⟩, e1⟩ := DD
          obtain rfl : l1 = l := hdf
          dsimp only at *
          subst he
          have hdl : (D.drp D.Fl.name nm l1).length ≤ 1000000 := Nat.le_trans (List.length_filter_le _ _) hlen
          have RQ := Lib.hid (fun W (h : FRead W (.slice A l1.length c) l1) => rdrop_any ⟨room1, fuse1, dead1, l1⟩ nm A c W h hlen)
          have RP := Lib.hid (fun W A c (h : FRead W (.slice A (D.drp D.Fl.name nm l1).length c) (D.drp D.Fl.name nm l1)) => rput_any ⟨room1, fuse1, dead1, D.drp D.Fl.name nm l1⟩ ⟨m, fb, fs⟩ A c W h hdl)
          unfold dskV filV at RP
          unfold dskV at RQ
          dsimp only at RP RQ
          rw [show ((0 : Nat) : Int) = 0 from rfl] at RD
          clear hP hri hf hmem
          generalize D.putGo ⟨m, fb, fs⟩ false (D.drp D.Fl.name nm l1) = L' at *
          generalize D.drp D.Fl.name nm l1 = l2 at *
          go_enter Try.func83, Try.ntmps83
          go_wp2_with (first | (go_at_call 52; (with_reducible refine (RF.out _ (fread_row hrow0)).mono ?_); rintro e w2 ⟨rfl, hb2⟩; have D4 := (D0.at_ hb2).alloc (.cells #[.string ⟨nm.toArray⟩, .string ⟨fb.toArray⟩, .int .i64 (fs : Int)] 81); have R4 := (R0.at_ hb2).alloc (.cells #[.string ⟨nm.toArray⟩, .string ⟨fb.toArray⟩, .int .i64 (fs : Int)] 81); have F4 := Blk.new w2 #[.string ⟨nm.toArray⟩, .string ⟨fb.toArray⟩, .int .i64 (fs : Int)] 81; have hB2 := hB0.trans (hb2.mono hB0.size); have hB4 := hB2.alloc hB2.size (.cells #[.string ⟨nm.toArray⟩, .string ⟨fb.toArray⟩, .int .i64 (fs : Int)] 81); have hlt2 := hb2.size; simp only [World.size_alloc] at hlt2; have hle2 : w.heap.size ≤ w2.heap.size := (by omega); have hne1 : w.heap.size ≠ w2.heap.size := (by omega); have hne2 : w2.heap.size ≠ w.heap.size := (by omega); have hne3 : w2.heap.size ≠ w.heap.size + 1 := (by omega); have hne4 : w.heap.size + 1 ≠ w2.heap.size := (by omega); clear hlt2; obtain ⟨x00, x01, x02, x03, y00, y01, y02, y03⟩ := free4 D4; obtain ⟨x10, x11, x12, x13, y10, y11, y12, y13⟩ := free4 R4) | (go_at_call 95; (with_reducible refine (GG.out _).mono ?_); rintro e w1 ⟨rfl, rfl⟩) | (go_at_call 96; (with_reducible refine (RD.out _).mono ?_); rintro e w5 ⟨rfl, hb5⟩; have D5 := D4.at_ hb5; have R5 := R4.at_ hb5; have F5 := F4.at_ hb5; have hB5 := hB4.trans (hb5.mono hB4.size); obtain ⟨u00, u01, u02, u03, v00, v01, v02, v03⟩ := free4 D5; obtain ⟨u10, u11, u12, u13, v10, v11, v12, v13⟩ := free4 R5; obtain ⟨u20, u21, u22, v20, v21, v22⟩ := free3 F5))
          obtain ⟨W6, hW6, hB6, hR6, hD6⟩ := store5 (j := 0) hB5 (Nat.le_refl _) hle2 (.int .i64 room1) (.int .i64 fuse1) (.bool dead1) (.slice A l1.length c) (.string ⟨m.toArray⟩)
          have R6 := hR6 _ _ _ R5 (by omega) hne4
          have D6 := hD6 _ _ _ _ _ hne1 D5
          have F6 := store5F F5 hne2 (.int .i64 room1) (.int .i64 fuse1) (.bool dead1) (.slice A l1.length c) (.string ⟨m.toArray⟩)
          rw [← hW6] at F6
          rw [← hW6]
          have hrow6 := FRow.at_ hrow hB6
          have D6' : Blk W6.drew w.heap.size #[.int .i64 room1, .int .i64 fuse1, .bool dead1, .slice A l1.length c] 76 := D6
          have F6' : Blk W6.drew w2.heap.size #[.string ⟨m.toArray⟩, .string ⟨fb.toArray⟩, .int .i64 (fs : Int)] 81 := F6
          have R6' : Blk W6.drew (w.heap.size + 1) _ 76 := R6
          have hrow6' : FRow W6.drew (.slice A l1.length c) l1 := hrow6
          have hB6' : Below w.heap.size w W6.drew := below_drewN hB6 1
          clear x00 x01 x02 x03 y00 y01 y02 y03 x10 x11 x12 x13 y10 y11 y12 y13 u00 u01 u02 u03 v00 v01 v02 v03 u10 u11 u12 u13 v10 v11 v12 v13 u20 u21 u22 v20 v21 v22 hW6
          apply wp_region_rel_below_tail 5 [[(3, none)], [(1, none)], [(36, some 0), (37, some 1)], [(8, none)], [(38, some 2), (39, some 3)]] [eqv _, eqv _, rdR room1 fuse1 dead1 l2, eqv _, rdR room1 fuse1 dead1 L'] (by kernel_rfl) (by kernel_rfl)
          case hobs =>
            refine ⟨?_, ?_⟩
            · rintro L a1 w1 hT - - ⟨h3, -⟩   -- 0: Op.load 76 t3
              have e3 : a1.tmps.getD 3 undef = _ := h3
              have f3 := getD_form e3
              clear h3
              obtain ⟨c00, c01, c02, c03, -, -, -, -⟩ := free4 (D6'.at_ hT)
              go_simp; exact left_intro rfl (Stp.refl _) trivial
            refine ⟨?_, ?_⟩
            · rintro L a1 w1 hT - - ⟨h1, -⟩   -- 1: Op.move t1
              have e1 : a1.tmps.getD 1 undef = _ := h1
              have f1 := getD_form e1
              clear h1
              go_simp; exact left_intro rfl (Stp.refl _) trivial
            refine ⟨?_, ?_⟩
            · rintro L a1 w1 hT - - ⟨h36, h37, -⟩   -- 2: Op.call { value (Operand.func 98), args := #[t36, t37], argTypes := #[76, 9] }
              have e36 : a1.tmps.getD 36 undef = _ := h36
              have f36 := getD_form e36
              have e37 : a1.tmps.getD 37 undef = _ := h37
              have f37 := getD_form e37
              clear h36 h37
              have hrT := FRow.at_ hrow6' hT
              go_simp; go_at_call 98; (with_reducible refine (RQ.out _ (fread_row hrT)).mono ?_); rintro e w3 ⟨A7, c7, rfl, hr7, hb⟩; exact left_intro (T := Stp) (Ph := fun _ _ _ => True) (show rdR _ _ _ _ _ _ from ⟨(A7, c7), rfl, hr7⟩) (Stp.of hb) trivial
            refine ⟨?_, ?_⟩
            · rintro L a1 w1 hT - - ⟨h8, -⟩   -- 3: Op.load 81 t8
              have e8 : a1.tmps.getD 8 undef = _ := h8
              have f8 := getD_form e8
              clear h8
              obtain ⟨c20, c21, c22, -, -, -⟩ := free3 (F6'.at_ hT)
              go_simp; exact left_intro rfl (Stp.refl _) trivial
            refine ⟨?_, ?_⟩
            · rintro L a1 w1 hT - - ⟨h38, h39, -⟩   -- 4: Op.call { value (Operand.func 97), args := #[t38, t39], argTypes := #[76, 81] }
              obtain ⟨b38, e38, B38⟩ : (rdR room1 fuse1 dead1 l2) (a1.tmps.getD 38 undef) w1 := h38
              have f38 := getD_form e38
              have e39 : a1.tmps.getD 39 undef = _ := h39
              have f39 := getD_form e39
              clear h39
              obtain ⟨A7, c7⟩ := b38
              dsimp only at e38 f38 B38
              have hr7 := B38
              go_simp; go_at_call 97; (with_reducible refine (RP.out _ _ _ (fread_row hr7)).mono ?_); rintro e w3 ⟨A8, c8, rfl, hr8, hb⟩; exact left_intro (T := Stp) (Ph := fun _ _ _ => True) (show rdR _ _ _ _ _ _ from ⟨(A8, c8), rfl, hr8⟩) (Stp.of hb) trivial
            trivial
          case hmono => repeat (first | exact trivial | refine ⟨fun _ _ _ _ h => h, ?_⟩ | refine ⟨mono_blkRow _ _ _ _, ?_⟩ | refine ⟨mono_rdR _ _ _ _, ?_⟩)
          case hend =>
            intro w2 hT
            rintro _ rfl _ rfl v38 hb38 _ rfl v40 hb40
            change wpList _ _ _ _ _ _
            simp only [Act.put, List.setIfInBounds_toArray, List.set_cons_succ, List.set_cons_zero, List.drop_succ_cons, List.drop_zero]
            obtain ⟨⟨A7, c7⟩, rfl, hrow7⟩ := hb40
            dsimp only at hrow7
            have R7 := R6.at_ hT
            have D7 := D6.at_ hT
            have hB7 := hB6.trans (Below.mono hT hB6.size)
            obtain ⟨p00, p01, p02, p03, q00, q01, q02, q03⟩ := free4 D7
            obtain ⟨p10, p11, p12, p13, q10, q11, q12, q13⟩ := free4 R7
            clear hb38 hT
            go_wp2
            obtain ⟨W8, hW8, b8, hB8, hR8⟩ := store8 D7 R7 (by omega) (.int .i64 room1) (.int .i64 fuse1) (.bool dead1) (.slice A7 L'.length c7) (.int .i64 room1) (.int .i64 fuse1) (.bool dead1) (.slice A7 L'.length c7)
            rw [← hW8]
            exact bodyPost_ret (v := .tuple #[.agg #[.int .i64 room1, .int .i64 fuse1, .bool dead1, .slice A7 L'.length c7], .int .i64 0]) (results_blk2 (by rfl) _ b8 _ _ (by rfl) (by rfl) Try.underlying76 (by rfl) (size_dskC _ _ _ _)) rfl ⟨_, rfl, ⟨A7, c7, rfl, hR8 _ _ hrow7⟩, hB8 _ _ (Nat.le_refl _) (by omega) hB7⟩
        · rw [D.rename_dies (M := ⟨room, fuse, false, l⟩) rfl hg hf he]
          generalize D.deed ⟨room, fuse, false, l⟩ = DD at *
          obtain ⟨⟨room1, fuse1, dead1, l1⟩, e1⟩ := DD
          obtain rfl : l1 = l := hdf
          dsimp only at *
          have e0 : ((e1 : Int) == 0) = false := by rw [beq_eq_false_iff_ne]; omega
          clear hri hf hmem he
          go_enter Try.func83, Try.ntmps83
          go_wp2_with (first | (go_at_call 52; (with_reducible refine (RF.out _ (fread_row hrow0)).mono ?_); rintro e w2 ⟨rfl, hb2⟩; have D4 := (D0.at_ hb2).alloc (.cells #[.string ⟨nm.toArray⟩, .string ⟨fb.toArray⟩, .int .i64 (fs : Int)] 81); have R4 := (R0.at_ hb2).alloc (.cells #[.string ⟨nm.toArray⟩, .string ⟨fb.toArray⟩, .int .i64 (fs : Int)] 81); have F4 := Blk.new w2 #[.string ⟨nm.toArray⟩, .string ⟨fb.toArray⟩, .int .i64 (fs : Int)] 81; have hB2 := hB0.trans (hb2.mono hB0.size); have hB4 := hB2.alloc hB2.size (.cells #[.string ⟨nm.toArray⟩, .string ⟨fb.toArray⟩, .int .i64 (fs : Int)] 81); have hlt2 := hb2.size; simp only [World.size_alloc] at hlt2; have hle2 : w.heap.size ≤ w2.heap.size := (by omega); have hne1 : w.heap.size ≠ w2.heap.size := (by omega); have hne2 : w2.heap.size ≠ w.heap.size := (by omega); have hne3 : w2.heap.size ≠ w.heap.size + 1 := (by omega); have hne4 : w.heap.size + 1 ≠ w2.heap.size := (by omega); clear hlt2; obtain ⟨x00, x01, x02, x03, y00, y01, y02, y03⟩ := free4 D4; obtain ⟨x10, x11, x12, x13, y10, y11, y12, y13⟩ := free4 R4) | (go_at_call 95; (with_reducible refine (GG.out _).mono ?_); rintro e w1 ⟨rfl, rfl⟩) | (go_at_call 96; (with_reducible refine (RD.out _).mono ?_); rintro e w5 ⟨rfl, hb5⟩; have D5 := D4.at_ hb5; have R5 := R4.at_ hb5; have F5 := F4.at_ hb5; have hB5 := hB4.trans (hb5.mono hB4.size); obtain ⟨u00, u01, u02, u03, v00, v01, v02, v03⟩ := free4 D5; obtain ⟨u10, u11, u12, u13, v10, v11, v12, v13⟩ := free4 R5; obtain ⟨u20, u21, u22, v20, v21, v22⟩ := free3 F5))
          obtain ⟨W8, hW8, b8, hB8, hR8⟩ := store8 D5 R5 (by omega) (.int .i64 room1) (.int .i64 fuse1) (.bool dead1) (.slice A l1.length c) (.int .i64 room1) (.int .i64 fuse1) (.bool dead1) (.slice A l1.length c)
          rw [← hW8]
          have hB9 := hB8 _ _ (Nat.le_refl _) (by omega) hB5
          exact bodyPost_ret (v := .tuple #[.agg #[.int .i64 room1, .int .i64 fuse1, .bool dead1, .slice A l1.length c], .int .i64 (e1 : Int)]) (results_blk2 (by rfl) _ b8 _ _ (by rfl) (by rfl) Try.underlying76 (by rfl) (size_dskC _ _ _ _)) rfl ⟨_, rfl, ⟨A, c, rfl, FRow.at_ hrow hB9⟩, hB9⟩
end Go.Proofs.Ytknkbioalohofaa
