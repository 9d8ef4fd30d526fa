/- The walks of the document's disk's Sync, Remove and Rename. -/
import Derived.Test.YtknkbioalohofaaDrE
namespace Go.Proofs.Ytknkbioalohofaa
open Go.RowKit

/-- Behind the stores of four cells into one block and four into another one. -/
theorem store8 {g0 g1 : Nat} {W : World} {a b c d a' b' c' d' : Value} (D : Blk W g0 #[a, b, c, d] 76) (R : Blk W g1 #[a', b', c', d'] 76) (hne : g1 ≠ g0) (x y z u p q r s : Value) :
    ∃ W', W' = ((((((((W.setCell ⟨g0, 0, none⟩ x).setCell ⟨g0, 1, none⟩ y).setCell ⟨g0, 2, none⟩ z).setCell ⟨g0, 3, none⟩ u).setCell ⟨g1, 0, none⟩ p).setCell ⟨g1, 1, none⟩ q).setCell ⟨g1, 2, none⟩ r).setCell ⟨g1, 3, none⟩ s) ∧ Blk W' g1 #[p, q, r, s] 76 ∧ (∀ B X, B ≤ g0 → B ≤ g1 → Below B X W → Below B X W') ∧ (∀ o l, FRow W o l → FRow W' o l) := by
  obtain ⟨_, o0⟩ := blk4 D x y z u
  have R1 := R.only o0 hne
  obtain ⟨b2, o2⟩ := blk4 R1 p q r s
  exact ⟨_, rfl, b2, fun B X h0 h1 h => o2.below (o0.below h h0) h1, fun o l h => RowN.only (RowN.only h D (by decide) o0) R1 (by decide) o2⟩
/-- Behind the stores of four cells into one block and one into another one. -/
theorem store5 {B g0 g2 j : Nat} {a W : World} (hB : Below B a W) (h0 : B ≤ g0) (h2 : B ≤ g2) (x y z u p : Value) :
    ∃ W', W' = (((((W.setCell ⟨g0, 0, none⟩ x).setCell ⟨g0, 1, none⟩ y).setCell ⟨g0, 2, none⟩ z).setCell ⟨g0, 3, none⟩ u).setCell ⟨g2, j, none⟩ p) ∧ Below B a W' ∧ (∀ g cs t, Blk W g cs t → g ≠ g0 → g ≠ g2 → Blk W' g cs t) ∧ (∀ a b c d t, g0 ≠ g2 → Blk W g0 #[a, b, c, d] t → Blk W' g0 #[x, y, z, u] t) := by
  refine ⟨_, rfl, ?_, fun g cs t h n0 n2 => ((((h.far (p := ⟨g0, 0, none⟩) n0 x).far (p := ⟨g0, 1, none⟩) n0 y).far (p := ⟨g0, 2, none⟩) n0 z).far (p := ⟨g0, 3, none⟩) n0 u).far (p := ⟨g2, j, none⟩) n2 p, fun a b c d t n h => (blk4 h x y z u).1.far (p := ⟨g2, j, none⟩) n p⟩
  exact (Only.setCell _ g2 j p).below ((Only.setCell _ g0 3 u).below ((Only.setCell _ g0 2 z).below ((Only.setCell _ g0 1 y).below ((Only.setCell _ g0 0 x).below hB h0) h0) h0) h0) h2
/-- Behind the stores of four cells into one block. -/
theorem store4 {B g0 : Nat} {a W : World} (hB : Below B a W) (h0 : B ≤ g0) (x y z u : Value) :
    ∃ W', W' = ((((W.setCell ⟨g0, 0, none⟩ x).setCell ⟨g0, 1, none⟩ y).setCell ⟨g0, 2, none⟩ z).setCell ⟨g0, 3, none⟩ u) ∧ Below B a W' ∧ (∀ g cs t, Blk W g cs t → g ≠ g0 → Blk W' g cs t) ∧ (∀ a b c d t, Blk W g0 #[a, b, c, d] t → Blk W' g0 #[x, y, z, u] t) := by
  refine ⟨_, rfl, ?_, fun g cs t h n0 => (((h.far (p := ⟨g0, 0, none⟩) n0 x).far (p := ⟨g0, 1, none⟩) n0 y).far (p := ⟨g0, 2, none⟩) n0 z).far (p := ⟨g0, 3, none⟩) n0 u, fun a b c d t h => (blk4 h x y z u).1⟩
  exact (Only.setCell _ g0 3 u).below ((Only.setCell _ g0 2 z).below ((Only.setCell _ g0 1 y).below ((Only.setCell _ g0 0 x).below hB h0) h0) h0) h0
set_option maxRecDepth 100000 in
set_option maxHeartbeats 4000000 in
theorem rsync_any (M : D.Dk) (n : List UInt8) (v : Value) (w : World) (h : RDk w v M) (hM : Tame M) :
    Calls Try.prog 82 #[v, .string ⟨n.toArray⟩] w fun e w' => ∃ v', e = .returned (.tuple #[v', .int .i64 ((D.sync M n).2 : Int)]) ∧ RDk w' v' (D.sync M n).1 ∧ Below w.heap.size w w' := by
  obtain ⟨A, c, rfl, hrow⟩ := h
  have hri := hM.rise
  have hlen := hM.len
  have hus := hM.used
  have hfu := hM.fuse
  obtain ⟨room, fuse, dead, l⟩ := M
  dsimp only at hri hlen hus hfu hrow
  have RD := Lib.hid (fun W => rdeed_any ⟨room, fuse, dead, l⟩ A l.length c W (by show -9223372036854775807 ≤ fuse ∧ fuse ≤ 9223372036854775807; omega))
  obtain ⟨D0, R0, hB0⟩ := two_new w #[.int .i64 room, .int .i64 fuse, .bool dead, .slice A l.length c] #[.int .i64 0, .int .i64 0, .bool false, .slice none 0 0] 76 76
  have hrow0 := hrow.at_ hB0
  change Calls Try.prog _ #[.agg #[.int .i64 room, .int .i64 fuse, .bool dead, .slice A l.length c], _] w _
  unfold dskV at RD
  dsimp only at RD
  cases dead with
  | true =>
    rw [D.sync_dead (M := ⟨room, fuse, true, l⟩) rfl]
    go_enter Try.func82, Try.ntmps82
    go_wp2
    obtain ⟨-, b1, hb⟩ := two_new w #[.int .i64 room, .int .i64 fuse, .bool true, .slice A l.length c] #[.int .i64 room, .int .i64 fuse, .bool true, .slice A l.length c] 76 76
    exact bodyPost_ret (v := .tuple #[.agg #[.int .i64 room, .int .i64 fuse, .bool true, .slice A l.length c], .int .i64 10]) (results_blk2 (by rfl) _ b1 _ _ (by rfl) (by rfl) Try.underlying76 (by rfl) (size_dskC _ _ _ _)) rfl ⟨_, rfl, ⟨A, c, rfl, hrow.at_ hb⟩, hb⟩
  | false =>
    cases hf : D.fnd D.Fl.name n l with
    | none =>
      have RF := Lib.hid (show ∀ W (h : FRead W (.slice A l.length c) l), Calls Try.prog 52 #[.agg #[.int .i64 room, .int .i64 fuse, .bool false, .slice A l.length c], .string ⟨n.toArray⟩] W fun e w' => e = .returned (.tuple #[.agg #[.string ⟨#[]⟩, .string ⟨#[]⟩, .int .i64 0], .bool false]) ∧ Below W.heap.size W w' from fun W h => by have h9 := rfind_any ⟨room, fuse, false, l⟩ (.slice A l.length c) W h n hlen; dsimp only at h9; rw [hf] at h9; exact h9)
      rw [D.sync_none (M := ⟨room, fuse, false, l⟩) rfl hf]
      go_enter Try.func82, Try.ntmps82
      go_wp2_with (first | (go_at_call 52; (with_reducible refine (RF.out _ (fread_row hrow0)).mono ?_); rintro e w2 ⟨rfl, hb2⟩; have D4 := (D0.at_ hb2).alloc (.cells #[.string ⟨#[]⟩, .string ⟨#[]⟩, .int .i64 0] 81); have R4 := (R0.at_ hb2).alloc (.cells #[.string ⟨#[]⟩, .string ⟨#[]⟩, .int .i64 0] 81); have F4 := Blk.new w2 #[.string ⟨#[]⟩, .string ⟨#[]⟩, .int .i64 0] 81; have hB2 := hB0.trans (hb2.mono hB0.size); have hB4 := hB2.alloc hB2.size (.cells #[.string ⟨#[]⟩, .string ⟨#[]⟩, .int .i64 0] 81); have hlt2 := hb2.size; simp only [World.size_alloc] at hlt2; have hle2 : w.heap.size ≤ w2.heap.size := (by omega); have hne1 : w.heap.size ≠ w2.heap.size := (by omega); have hne2 : w2.heap.size ≠ w.heap.size := (by omega); have hne3 : w2.heap.size ≠ w.heap.size + 1 := (by omega); have hne4 : w.heap.size + 1 ≠ w2.heap.size := (by omega); clear hlt2; obtain ⟨x00, x01, x02, x03, y00, y01, y02, y03⟩ := free4 D4; obtain ⟨x10, x11, x12, x13, y10, y11, y12, y13⟩ := free4 R4))
      obtain ⟨b1, o1⟩ := blk4 R4 (.int .i64 room) (.int .i64 fuse) (.bool false) (.slice A l.length c)
      exact bodyPost_ret (v := .tuple #[.agg #[.int .i64 room, .int .i64 fuse, .bool false, .slice A l.length c], .int .i64 7]) (results_blk2 (by rfl) _ b1 _ _ (by rfl) (by rfl) Try.underlying76 (by rfl) (size_dskC _ _ _ _)) rfl ⟨_, rfl, ⟨A, c, rfl, FRow.at_ hrow (o1.below hB4 (by omega))⟩, o1.below hB4 (by omega)⟩
    | some f0 =>
      obtain ⟨nm, fb, fs⟩ := f0
      obtain ⟨hmem, hnm⟩ := D.fnd_mem D.Fl.name hf
      obtain rfl : nm = n := hnm
      have RF := Lib.hid (show ∀ W (h : FRead W (.slice A l.length c) l), Calls Try.prog 52 #[.agg #[.int .i64 room, .int .i64 fuse, .bool false, .slice A l.length c], .string ⟨nm.toArray⟩] W fun e w' => e = .returned (.tuple #[.agg #[.string ⟨nm.toArray⟩, .string ⟨fb.toArray⟩, .int .i64 (fs : Int)], .bool true]) ∧ Below W.heap.size W w' from fun W h => by have h9 := rfind_any ⟨room, fuse, false, l⟩ (.slice A l.length c) W h nm hlen; dsimp only at h9; rw [hf] at h9; exact h9)
      have hdf := D.deed_files ⟨room, fuse, false, l⟩
      have hz : (⟨fb.toArray⟩ : ByteArray).size = fb.length := by simp [ByteArray.size]
      by_cases he : (D.deed ⟨room, fuse, false, l⟩).2 = 0
      · rw [D.sync_ok (M := ⟨room, fuse, false, l⟩) rfl hf he]
        have hP : D.putGo ⟨nm, fb, fb.length⟩ false l = D.upd D.Fl.name nm (fun f => { f with sure := f.b.length }) l := D.put_old hri hf rfl rfl
        rw [← hP]
        generalize D.deed ⟨room, fuse, false, l⟩ = DD at *
        obtain ⟨⟨room1, fuse1, dead1, l1⟩, e1⟩ := DD
        obtain rfl : l1 = l := hdf
        dsimp only at *
        subst he
        have RP := Lib.hid (fun W (h : FRead W (.slice A l1.length c) l1) => rput_any ⟨room1, fuse1, dead1, l1⟩ ⟨nm, fb, fb.length⟩ A c W h hlen)
        unfold dskV filV at RP
        dsimp only at RP
        rw [show ((0 : Nat) : Int) = 0 from rfl] at RD
        clear hP hri hf hmem
        generalize D.putGo ⟨nm, fb, fb.length⟩ false l1 = L' at *
        go_enter Try.func82, Try.ntmps82
        go_wp2_with (first | (go_at_call 52; (with_reducible refine (RF.out _ (fread_row hrow0)).mono ?_); rintro e w2 ⟨rfl, hb2⟩; have D4 := (D0.at_ hb2).alloc (.cells #[.string ⟨nm.toArray⟩, .string ⟨fb.toArray⟩, .int .i64 (fs : Int)] 81); have R4 := (R0.at_ hb2).alloc (.cells #[.string ⟨nm.toArray⟩, .string ⟨fb.toArray⟩, .int .i64 (fs : Int)] 81); have F4 := Blk.new w2 #[.string ⟨nm.toArray⟩, .string ⟨fb.toArray⟩, .int .i64 (fs : Int)] 81; have hB2 := hB0.trans (hb2.mono hB0.size); have hB4 := hB2.alloc hB2.size (.cells #[.string ⟨nm.toArray⟩, .string ⟨fb.toArray⟩, .int .i64 (fs : Int)] 81); have hlt2 := hb2.size; simp only [World.size_alloc] at hlt2; have hle2 : w.heap.size ≤ w2.heap.size := (by omega); have hne1 : w.heap.size ≠ w2.heap.size := (by omega); have hne2 : w2.heap.size ≠ w.heap.size := (by omega); have hne3 : w2.heap.size ≠ w.heap.size + 1 := (by omega); have hne4 : w.heap.size + 1 ≠ w2.heap.size := (by omega); clear hlt2; obtain ⟨x00, x01, x02, x03, y00, y01, y02, y03⟩ := free4 D4; obtain ⟨x10, x11, x12, x13, y10, y11, y12, y13⟩ := free4 R4) | (go_at_call 96; (with_reducible refine (RD.out _).mono ?_); rintro e w5 ⟨rfl, hb5⟩; have D5 := D4.at_ hb5; have R5 := R4.at_ hb5; have F5 := F4.at_ hb5; have hB5 := hB4.trans (hb5.mono hB4.size); obtain ⟨u00, u01, u02, u03, v00, v01, v02, v03⟩ := free4 D5; obtain ⟨u10, u11, u12, u13, v10, v11, v12, v13⟩ := free4 R5; obtain ⟨u20, u21, u22, v20, v21, v22⟩ := free3 F5) | (go_at_call 97; go_loud (obtain ⟨W6, hW6, hB6, hR6, hD6⟩ := store5 (j := 2) hB5 (Nat.le_refl _) hle2 (.int .i64 room1) (.int .i64 fuse1) (.bool dead1) (.slice A l1.length c) (.int .i64 (fb.length : Int)); rw [← hW6]; have R6 := hR6 _ _ _ R5 (by omega) hne4; have D6 := hD6 _ _ _ _ _ hne1 D5; have hrow6 := FRow.at_ hrow hB6; (with_reducible refine (RP.out _ (fread_row hrow6)).mono ?_); rintro e w7 ⟨A7, c7, rfl, hrow7, hb7⟩; have R7 := R6.at_ hb7; have D7 := D6.at_ hb7; have hB7 := hB6.trans (hb7.mono hB6.size); obtain ⟨p00, p01, p02, p03, q00, q01, q02, q03⟩ := free4 D7; obtain ⟨p10, p11, p12, p13, q10, q11, q12, q13⟩ := free4 R7)))
        obtain ⟨W8, hW8, b8, hB8, hR8⟩ := store8 D7 R7 (by omega) (.int .i64 room1) (.int .i64 fuse1) (.bool dead1) (.slice A7 L'.length c7) (.int .i64 room1) (.int .i64 fuse1) (.bool dead1) (.slice A7 L'.length c7)
        rw [← hW8]
        exact bodyPost_ret (v := .tuple #[.agg #[.int .i64 room1, .int .i64 fuse1, .bool dead1, .slice A7 L'.length c7], .int .i64 0]) (results_blk2 (by rfl) _ b8 _ _ (by rfl) (by rfl) Try.underlying76 (by rfl) (size_dskC _ _ _ _)) rfl ⟨_, rfl, ⟨A7, c7, rfl, hR8 _ _ hrow7⟩, hB8 _ _ (Nat.le_refl _) (by omega) hB7⟩
      · rw [D.sync_dies (M := ⟨room, fuse, false, l⟩) rfl hf he]
        generalize D.deed ⟨room, fuse, false, l⟩ = DD at *
        obtain ⟨⟨room1, fuse1, dead1, l1⟩, e1⟩ := DD
        obtain rfl : l1 = l := hdf
        dsimp only at *
        have e0 : ((e1 : Int) == 0) = false := by rw [beq_eq_false_iff_ne]; omega
        clear hri hf hmem he
        go_enter Try.func82, Try.ntmps82
        go_wp2_with (first | (go_at_call 52; (with_reducible refine (RF.out _ (fread_row hrow0)).mono ?_); rintro e w2 ⟨rfl, hb2⟩; have D4 := (D0.at_ hb2).alloc (.cells #[.string ⟨nm.toArray⟩, .string ⟨fb.toArray⟩, .int .i64 (fs : Int)] 81); have R4 := (R0.at_ hb2).alloc (.cells #[.string ⟨nm.toArray⟩, .string ⟨fb.toArray⟩, .int .i64 (fs : Int)] 81); have F4 := Blk.new w2 #[.string ⟨nm.toArray⟩, .string ⟨fb.toArray⟩, .int .i64 (fs : Int)] 81; have hB2 := hB0.trans (hb2.mono hB0.size); have hB4 := hB2.alloc hB2.size (.cells #[.string ⟨nm.toArray⟩, .string ⟨fb.toArray⟩, .int .i64 (fs : Int)] 81); have hlt2 := hb2.size; simp only [World.size_alloc] at hlt2; have hle2 : w.heap.size ≤ w2.heap.size := (by omega); have hne1 : w.heap.size ≠ w2.heap.size := (by omega); have hne2 : w2.heap.size ≠ w.heap.size := (by omega); have hne3 : w2.heap.size ≠ w.heap.size + 1 := (by omega); have hne4 : w.heap.size + 1 ≠ w2.heap.size := (by omega); clear hlt2; obtain ⟨x00, x01, x02, x03, y00, y01, y02, y03⟩ := free4 D4; obtain ⟨x10, x11, x12, x13, y10, y11, y12, y13⟩ := free4 R4) | (go_at_call 96; (with_reducible refine (RD.out _).mono ?_); rintro e w5 ⟨rfl, hb5⟩; have D5 := D4.at_ hb5; have R5 := R4.at_ hb5; have F5 := F4.at_ hb5; have hB5 := hB4.trans (hb5.mono hB4.size); obtain ⟨u00, u01, u02, u03, v00, v01, v02, v03⟩ := free4 D5; obtain ⟨u10, u11, u12, u13, v10, v11, v12, v13⟩ := free4 R5; obtain ⟨u20, u21, u22, v20, v21, v22⟩ := free3 F5))
        obtain ⟨W8, hW8, b8, hB8, hR8⟩ := store8 D5 R5 (by omega) (.int .i64 room1) (.int .i64 fuse1) (.bool dead1) (.slice A l1.length c) (.int .i64 room1) (.int .i64 fuse1) (.bool dead1) (.slice A l1.length c)
        rw [← hW8]
        have hB9 := hB8 _ _ (Nat.le_refl _) (by omega) hB5
        exact bodyPost_ret (v := .tuple #[.agg #[.int .i64 room1, .int .i64 fuse1, .bool dead1, .slice A l1.length c], .int .i64 (e1 : Int)]) (results_blk2 (by rfl) _ b8 _ _ (by rfl) (by rfl) Try.underlying76 (by rfl) (size_dskC _ _ _ _)) rfl ⟨_, rfl, ⟨A, c, rfl, FRow.at_ hrow hB9⟩, hB9⟩
set_option maxRecDepth 100000 in
set_option maxHeartbeats 4000000 in
theorem rremove_any (M : D.Dk) (n : List UInt8) (v : Value) (w : World) (h : RDk w v M) (hM : Tame M) :
    Calls Try.prog 84 #[v, .string ⟨n.toArray⟩] w fun e w' => ∃ v', e = .returned (.tuple #[v', .int .i64 ((D.remove M n).2 : Int)]) ∧ RDk w' v' (D.remove M n).1 ∧ Below w.heap.size w w' := by
  obtain ⟨A, c, rfl, hrow⟩ := h
  have hri := hM.rise
  have hlen := hM.len
  have hus := hM.used
  have hfu := hM.fuse
  obtain ⟨room, fuse, dead, l⟩ := M
  dsimp only at hri hlen hus hfu hrow
  have RD := Lib.hid (fun W => rdeed_any ⟨room, fuse, dead, l⟩ A l.length c W (by show -9223372036854775807 ≤ fuse ∧ fuse ≤ 9223372036854775807; omega))
  obtain ⟨D0, R0, hB0⟩ := two_new w #[.int .i64 room, .int .i64 fuse, .bool dead, .slice A l.length c] #[.int .i64 0, .int .i64 0, .bool false, .slice none 0 0] 76 76
  have hrow0 := hrow.at_ hB0
  change Calls Try.prog _ #[.agg #[.int .i64 room, .int .i64 fuse, .bool dead, .slice A l.length c], _] w _
  unfold dskV at RD
  dsimp only at RD
  cases dead with
  | true =>
    rw [D.remove_dead (M := ⟨room, fuse, true, l⟩) rfl]
    go_enter Try.func84, Try.ntmps84
    go_wp2
    obtain ⟨-, b1, hb⟩ := two_new w #[.int .i64 room, .int .i64 fuse, .bool true, .slice A l.length c] #[.int .i64 room, .int .i64 fuse, .bool true, .slice A l.length c] 76 76
    exact bodyPost_ret (v := .tuple #[.agg #[.int .i64 room, .int .i64 fuse, .bool true, .slice A l.length c], .int .i64 10]) (results_blk2 (by rfl) _ b1 _ _ (by rfl) (by rfl) Try.underlying76 (by rfl) (size_dskC _ _ _ _)) rfl ⟨_, rfl, ⟨A, c, rfl, hrow.at_ hb⟩, hb⟩
  | false =>
    cases hf : D.fnd D.Fl.name n l with
    | none =>
      have RF := Lib.hid (show ∀ W (h : FRead W (.slice A l.length c) l), Calls Try.prog 52 #[.agg #[.int .i64 room, .int .i64 fuse, .bool false, .slice A l.length c], .string ⟨n.toArray⟩] W fun e w' => e = .returned (.tuple #[.agg #[.string ⟨#[]⟩, .string ⟨#[]⟩, .int .i64 0], .bool false]) ∧ Below W.heap.size W w' from fun W h => by have h9 := rfind_any ⟨room, fuse, false, l⟩ (.slice A l.length c) W h n hlen; dsimp only at h9; rw [hf] at h9; exact h9)
      rw [D.remove_none (M := ⟨room, fuse, false, l⟩) rfl hf]
      go_enter Try.func84, Try.ntmps84
      go_wp2_with (first | (go_at_call 52; (with_reducible refine (RF.out _ (fread_row hrow0)).mono ?_); rintro e w2 ⟨rfl, hb2⟩; have D4 := (D0.at_ hb2).alloc (.cells #[.string ⟨#[]⟩, .string ⟨#[]⟩, .int .i64 0] 81); have R4 := (R0.at_ hb2).alloc (.cells #[.string ⟨#[]⟩, .string ⟨#[]⟩, .int .i64 0] 81); have F4 := Blk.new w2 #[.string ⟨#[]⟩, .string ⟨#[]⟩, .int .i64 0] 81; have hB2 := hB0.trans (hb2.mono hB0.size); have hB4 := hB2.alloc hB2.size (.cells #[.string ⟨#[]⟩, .string ⟨#[]⟩, .int .i64 0] 81); have hlt2 := hb2.size; simp only [World.size_alloc] at hlt2; have hle2 : w.heap.size ≤ w2.heap.size := (by omega); have hne1 : w.heap.size ≠ w2.heap.size := (by omega); have hne2 : w2.heap.size ≠ w.heap.size := (by omega); have hne3 : w2.heap.size ≠ w.heap.size + 1 := (by omega); have hne4 : w.heap.size + 1 ≠ w2.heap.size := (by omega); clear hlt2; obtain ⟨x00, x01, x02, x03, y00, y01, y02, y03⟩ := free4 D4; obtain ⟨x10, x11, x12, x13, y10, y11, y12, y13⟩ := free4 R4))
      obtain ⟨b1, o1⟩ := blk4 R4 (.int .i64 room) (.int .i64 fuse) (.bool false) (.slice A l.length c)
      exact bodyPost_ret (v := .tuple #[.agg #[.int .i64 room, .int .i64 fuse, .bool false, .slice A l.length c], .int .i64 7]) (results_blk2 (by rfl) _ b1 _ _ (by rfl) (by rfl) Try.underlying76 (by rfl) (size_dskC _ _ _ _)) rfl ⟨_, rfl, ⟨A, c, rfl, FRow.at_ hrow (o1.below hB4 (by omega))⟩, o1.below hB4 (by omega)⟩
    | some f0 =>
      obtain ⟨nm, fb, fs⟩ := f0
      obtain ⟨hmem, hnm⟩ := D.fnd_mem D.Fl.name hf
      obtain rfl : nm = n := hnm
      have RF := Lib.hid (show ∀ W (h : FRead W (.slice A l.length c) l), Calls Try.prog 52 #[.agg #[.int .i64 room, .int .i64 fuse, .bool false, .slice A l.length c], .string ⟨nm.toArray⟩] W fun e w' => e = .returned (.tuple #[.agg #[.string ⟨nm.toArray⟩, .string ⟨fb.toArray⟩, .int .i64 (fs : Int)], .bool true]) ∧ Below W.heap.size W w' from fun W h => by have h9 := rfind_any ⟨room, fuse, false, l⟩ (.slice A l.length c) W h nm hlen; dsimp only at h9; rw [hf] at h9; exact h9)
      have hdf := D.deed_files ⟨room, fuse, false, l⟩
      by_cases he : (D.deed ⟨room, fuse, false, l⟩).2 = 0
      · rw [D.remove_ok (M := ⟨room, fuse, false, l⟩) rfl hf he]
        show Calls _ _ _ _ (fun e w' => ∃ v', e = _ ∧ RDk w' v' { (D.deed ⟨room, fuse, false, l⟩).1 with files := D.drp D.Fl.name nm l } ∧ _)
        generalize D.deed ⟨room, fuse, false, l⟩ = DD at *
        obtain ⟨⟨room1, fuse1, dead1, l1⟩, e1⟩ := DD
        obtain rfl : l1 = l := hdf
        dsimp only at *
        subst he
        have RP := Lib.hid (fun W (h : FRead W (.slice A l1.length c) l1) => rdrop_any ⟨room1, fuse1, dead1, l1⟩ nm A c W h hlen)
        unfold dskV at RP
        dsimp only at RP
        rw [show ((0 : Nat) : Int) = 0 from rfl] at RD
        clear hri hf hmem
        generalize D.drp D.Fl.name nm l1 = L' at *
        go_enter Try.func84, Try.ntmps84
        go_wp2_with (first | (go_at_call 52; (with_reducible refine (RF.out _ (fread_row hrow0)).mono ?_); rintro e w2 ⟨rfl, hb2⟩; have D4 := (D0.at_ hb2).alloc (.cells #[.string ⟨nm.toArray⟩, .string ⟨fb.toArray⟩, .int .i64 (fs : Int)] 81); have R4 := (R0.at_ hb2).alloc (.cells #[.string ⟨nm.toArray⟩, .string ⟨fb.toArray⟩, .int .i64 (fs : Int)] 81); have F4 := Blk.new w2 #[.string ⟨nm.toArray⟩, .string ⟨fb.toArray⟩, .int .i64 (fs : Int)] 81; have hB2 := hB0.trans (hb2.mono hB0.size); have hB4 := hB2.alloc hB2.size (.cells #[.string ⟨nm.toArray⟩, .string ⟨fb.toArray⟩, .int .i64 (fs : Int)] 81); have hlt2 := hb2.size; simp only [World.size_alloc] at hlt2; have hle2 : w.heap.size ≤ w2.heap.size := (by omega); have hne1 : w.heap.size ≠ w2.heap.size := (by omega); have hne2 : w2.heap.size ≠ w.heap.size := (by omega); have hne3 : w2.heap.size ≠ w.heap.size + 1 := (by omega); have hne4 : w.heap.size + 1 ≠ w2.heap.size := (by omega); clear hlt2; obtain ⟨x00, x01, x02, x03, y00, y01, y02, y03⟩ := free4 D4; obtain ⟨x10, x11, x12, x13, y10, y11, y12, y13⟩ := free4 R4) | (go_at_call 96; (with_reducible refine (RD.out _).mono ?_); rintro e w5 ⟨rfl, hb5⟩; have D5 := D4.at_ hb5; have R5 := R4.at_ hb5; have F5 := F4.at_ hb5; have hB5 := hB4.trans (hb5.mono hB4.size); obtain ⟨u00, u01, u02, u03, v00, v01, v02, v03⟩ := free4 D5; obtain ⟨u10, u11, u12, u13, v10, v11, v12, v13⟩ := free4 R5; obtain ⟨u20, u21, u22, v20, v21, v22⟩ := free3 F5) | (go_at_call 98; go_loud (obtain ⟨W6, hW6, hB6, hR6, hD6⟩ := store4 hB5 (Nat.le_refl _) (.int .i64 room1) (.int .i64 fuse1) (.bool dead1) (.slice A l1.length c); rw [← hW6]; have R6 := hR6 _ _ _ R5 (by omega); have D6 := hD6 _ _ _ _ _ D5; have hrow6 := FRow.at_ hrow hB6; (with_reducible refine (RP.out _ (fread_row hrow6)).mono ?_); rintro e w7 ⟨A7, c7, rfl, hrow7, hb7⟩; have R7 := R6.at_ hb7; have D7 := D6.at_ hb7; have hB7 := hB6.trans (hb7.mono hB6.size); obtain ⟨p00, p01, p02, p03, q00, q01, q02, q03⟩ := free4 D7; obtain ⟨p10, p11, p12, p13, q10, q11, q12, q13⟩ := free4 R7)))
        obtain ⟨W8, hW8, b8, hB8, hR8⟩ := store8 D7 R7 (by omega) (.int .i64 room1) (.int .i64 fuse1) (.bool dead1) (.slice A7 L'.length c7) (.int .i64 room1) (.int .i64 fuse1) (.bool dead1) (.slice A7 L'.length c7)
        rw [← hW8]
        exact bodyPost_ret (v := .tuple #[.agg #[.int .i64 room1, .int .i64 fuse1, .bool dead1, .slice A7 L'.length c7], .int .i64 0]) (results_blk2 (by rfl) _ b8 _ _ (by rfl) (by rfl) Try.underlying76 (by rfl) (size_dskC _ _ _ _)) rfl ⟨_, rfl, ⟨A7, c7, rfl, hR8 _ _ hrow7⟩, hB8 _ _ (Nat.le_refl _) (by omega) hB7⟩
      · rw [D.remove_dies (M := ⟨room, fuse, false, l⟩) rfl hf he]
        generalize D.deed ⟨room, fuse, false, l⟩ = DD at *
        obtain ⟨⟨room1, fuse1, dead1, l1⟩, e1⟩ := DD
        obtain rfl : l1 = l := hdf
        dsimp only at *
        have e0 : ((e1 : Int) == 0) = false := by rw [beq_eq_false_iff_ne]; omega
        clear hri hf hmem he
        go_enter Try.func84, Try.ntmps84
        go_wp2_with (first | (go_at_call 52; (with_reducible refine (RF.out _ (fread_row hrow0)).mono ?_); rintro e w2 ⟨rfl, hb2⟩; have D4 := (D0.at_ hb2).alloc (.cells #[.string ⟨nm.toArray⟩, .string ⟨fb.toArray⟩, .int .i64 (fs : Int)] 81); have R4 := (R0.at_ hb2).alloc (.cells #[.string ⟨nm.toArray⟩, .string ⟨fb.toArray⟩, .int .i64 (fs : Int)] 81); have F4 := Blk.new w2 #[.string ⟨nm.toArray⟩, .string ⟨fb.toArray⟩, .int .i64 (fs : Int)] 81; have hB2 := hB0.trans (hb2.mono hB0.size); have hB4 := hB2.alloc hB2.size (.cells #[.string ⟨nm.toArray⟩, .string ⟨fb.toArray⟩, .int .i64 (fs : Int)] 81); have hlt2 := hb2.size; simp only [World.size_alloc] at hlt2; have hle2 : w.heap.size ≤ w2.heap.size := (by omega); have hne1 : w.heap.size ≠ w2.heap.size := (by omega); have hne2 : w2.heap.size ≠ w.heap.size := (by omega); have hne3 : w2.heap.size ≠ w.heap.size + 1 := (by omega); have hne4 : w.heap.size + 1 ≠ w2.heap.size := (by omega); clear hlt2; obtain ⟨x00, x01, x02, x03, y00, y01, y02, y03⟩ := free4 D4; obtain ⟨x10, x11, x12, x13, y10, y11, y12, y13⟩ := free4 R4) | (go_at_call 96; (with_reducible refine (RD.out _).mono ?_); rintro e w5 ⟨rfl, hb5⟩; have D5 := D4.at_ hb5; have R5 := R4.at_ hb5; have F5 := F4.at_ hb5; have hB5 := hB4.trans (hb5.mono hB4.size); obtain ⟨u00, u01, u02, u03, v00, v01, v02, v03⟩ := free4 D5; obtain ⟨u10, u11, u12, u13, v10, v11, v12, v13⟩ := free4 R5; obtain ⟨u20, u21, u22, v20, v21, v22⟩ := free3 F5))
        obtain ⟨W8, hW8, b8, hB8, hR8⟩ := store8 D5 R5 (by omega) (.int .i64 room1) (.int .i64 fuse1) (.bool dead1) (.slice A l1.length c) (.int .i64 room1) (.int .i64 fuse1) (.bool dead1) (.slice A l1.length c)
        rw [← hW8]
        have hB9 := hB8 _ _ (Nat.le_refl _) (by omega) hB5
        exact bodyPost_ret (v := .tuple #[.agg #[.int .i64 room1, .int .i64 fuse1, .bool dead1, .slice A l1.length c], .int .i64 (e1 : Int)]) (results_blk2 (by rfl) _ b8 _ _ (by rfl) (by rfl) Try.underlying76 (by rfl) (size_dskC _ _ _ _)) rfl ⟨_, rfl, ⟨A, c, rfl, FRow.at_ hrow hB9⟩, hB9⟩
end Go.Proofs.Ytknkbioalohofaa
