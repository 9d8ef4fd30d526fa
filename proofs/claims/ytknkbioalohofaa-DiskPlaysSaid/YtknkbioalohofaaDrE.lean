/- The walk of the document's disk's Append. -/
import Derived.Test.YtknkbioalohofaaDrD
namespace Go.Proofs.Ytknkbioalohofaa
open Go.RowKit

/-- The document's disk M, as a value whose files are a row of the program's own. -/
def RDk (w : World) (v : Value) (M : D.Dk) : Prop := ∃ A c, v = dskV M (.slice A M.files.length c) ∧ FRow w (.slice A M.files.length c) M.files
theorem FRow.at_ {w w' : World} {v : Value} {l : List D.Fl} (h : FRow w v l) (hb : Below w.heap.size w w') : FRow w' v l := RowN.at_ h hb
theorem RDk.at_ {w w' : World} {v : Value} {M : D.Dk} (h : RDk w v M) (hb : Below w.heap.size w w') : RDk w' v M := by
  obtain ⟨A, c, h1, h2⟩ := h
  exact ⟨A, c, h1, h2.at_ hb⟩
/-- Sizes that a disk of the law keeps. -/
structure Tame (M : D.Dk) : Prop where
  rise : D.Rise D.Fl.name M.files
  len : M.files.length ≤ 1000000
  used : D.used M.files ≤ 1000000000
  room : 0 ≤ M.room ∧ M.room < 9223372036854775808
  fuse : -1 ≤ M.fuse ∧ M.fuse ≤ 9223372036854775807
  good : ∀ f ∈ M.files, f.sure ≤ f.b.length
theorem barr_append (a b : List UInt8) : ((⟨a.toArray⟩ : ByteArray) ++ (⟨b.toArray⟩ : ByteArray)) = ⟨(a ++ b).toArray⟩ := by
  apply ByteArray.ext
  simp [ByteArray.data_append]
/-- Behind the stores of four cells into one block and two into another one. -/
theorem store6 {B g0 g2 : Nat} {a W : World} (hB : Below B a W) (h0 : B ≤ g0) (h2 : B ≤ g2) (x y z u p q : Value) :
    ∃ W', W' = ((((((W.setCell ⟨g0, 0, none⟩ x).setCell ⟨g0, 1, none⟩ y).setCell ⟨g0, 2, none⟩ z).setCell ⟨g0, 3, none⟩ u).setCell ⟨g2, 0, none⟩ p).setCell ⟨g2, 1, none⟩ q) ∧ Below B a W' ∧ (∀ g cs t, Blk W g cs t → g ≠ g0 → g ≠ g2 → Blk W' g cs t) := by
  refine ⟨_, rfl, ?_, fun g cs t h n0 n2 => (((((h.far (p := ⟨g0, 0, none⟩) n0 x).far (p := ⟨g0, 1, none⟩) n0 y).far (p := ⟨g0, 2, none⟩) n0 z).far (p := ⟨g0, 3, none⟩) n0 u).far (p := ⟨g2, 0, none⟩) n2 p).far (p := ⟨g2, 1, none⟩) n2 q⟩
  exact (Only.setCell _ g2 1 q).below ((Only.setCell _ g2 0 p).below ((Only.setCell _ g0 3 u).below ((Only.setCell _ g0 2 z).below ((Only.setCell _ g0 1 y).below ((Only.setCell _ g0 0 x).below hB h0) h0) h0) h0) h2) h2
theorem FRow.alloc {w : World} {v : Value} {l : List D.Fl} (h : FRow w v l) (o : Obj) : FRow (w.alloc o) v l := RowN.alloc h o
theorem fread_row {w : World} {v : Value} {l : List D.Fl} (h : FRow w v l) : FRead w v l := RowN.reads h
set_option maxRecDepth 100000 in
set_option maxHeartbeats 4000000 in
theorem rappend_any (M : D.Dk) (n b : List UInt8) (hb : b.length ≤ 1000000) (v : Value) (w : World) (h : RDk w v M) (hM : Tame M) :
    Calls Try.prog 81 #[v, .string ⟨n.toArray⟩, .string ⟨b.toArray⟩] w fun e w' => ∃ v', e = .returned (.tuple #[v', .int .i64 ((D.append M n b).2 : Int)]) ∧ RDk w' v' (D.append M n b).1 ∧ Below w.heap.size w w' := by
  obtain ⟨A, c, rfl, hrow⟩ := h
  have hri := hM.rise
  have hlen := hM.len
  have hus := hM.used
  have hro := hM.room
  have hfu := hM.fuse
  obtain ⟨room, fuse, dead, l⟩ := M
  dsimp only at hri hlen hus hro hfu hrow
  have GG := Lib.hid (fun W => rgood_any n W)
  have RU := Lib.hid (fun W (h : FRead W (.slice A l.length c) l) => rused_any ⟨room, fuse, dead, l⟩ (.slice A l.length c) W h hlen (by show D.used l ≤ _; omega))
  have RD := Lib.hid (fun W => rdeed_any ⟨room, fuse, dead, l⟩ A l.length c W (by show -9223372036854775807 ≤ fuse ∧ fuse ≤ 9223372036854775807; omega))
  obtain ⟨D0, R0, hB0⟩ := two_new w #[.int .i64 room, .int .i64 fuse, .bool dead, .slice A l.length c] #[.int .i64 0, .int .i64 0, .bool false, .slice none 0 0] 76 76
  have hrow0 := hrow.at_ hB0
  change Calls Try.prog _ #[.agg #[.int .i64 room, .int .i64 fuse, .bool dead, .slice A l.length c], _, _] w _
  unfold dskV at RU RD
  dsimp only at RU RD
  cases dead with
  | true =>
    have hR : D.append ⟨room, fuse, true, l⟩ n b = (⟨room, fuse, true, l⟩, 10) := D.append_dead rfl
    rw [hR]
    go_enter Try.func81, Try.ntmps81
    go_wp2
    obtain ⟨-, b1, hb⟩ := two_new w #[.int .i64 room, .int .i64 fuse, .bool true, .slice A l.length c] #[.int .i64 room, .int .i64 fuse, .bool true, .slice A l.length c] 76 76
    exact bodyPost_ret (v := .tuple #[.agg #[.int .i64 room, .int .i64 fuse, .bool true, .slice A l.length c], .int .i64 10]) (results_blk2 (by rfl) _ b1 _ _ (by rfl) (by rfl) Try.underlying76 (by rfl) (size_dskC _ _ _ _)) rfl ⟨_, rfl, ⟨A, c, rfl, hrow.at_ hb⟩, hb⟩
  | false =>
    cases hg : D.good n with
    | false =>
      have hR : D.append ⟨room, fuse, false, l⟩ n b = (⟨room, fuse, false, l⟩, 1) := D.append_bad rfl hg
      rw [hR]
      rw [hg] at GG
      go_enter Try.func81, Try.ntmps81
      go_wp2_with (first | (go_at_call 95; (with_reducible refine (GG.out _).mono ?_); rintro e w1 ⟨rfl, rfl⟩))
      obtain ⟨-, b1, hb⟩ := two_new w #[.int .i64 room, .int .i64 fuse, .bool false, .slice A l.length c] #[.int .i64 room, .int .i64 fuse, .bool false, .slice A l.length c] 76 76
      exact bodyPost_ret (v := .tuple #[.agg #[.int .i64 room, .int .i64 fuse, .bool false, .slice A l.length c], .int .i64 1]) (results_blk2 (by rfl) _ b1 _ _ (by rfl) (by rfl) Try.underlying76 (by rfl) (size_dskC _ _ _ _)) rfl ⟨_, rfl, ⟨A, c, rfl, hrow.at_ hb⟩, hb⟩
    | true =>
      rw [hg] at GG
      have hwr : IntKind.i64.wrap (room - (D.used l : Int)) = room - (D.used l : Int) := IntWalk.i64_in _ (by omega)
      have hz : (⟨b.toArray⟩ : ByteArray).size = b.length := by simp [ByteArray.size]
      have q0 : ∀ {W : World} (D2 : Blk W w.heap.size #[.int .i64 room, .int .i64 fuse, .bool false, .slice A l.length c] 76), W.cell? ⟨w.heap.size, 0, none⟩ = some (.int .i64 room) ∧ W.cell? ⟨w.heap.size, 1, none⟩ = some (.int .i64 fuse) ∧ W.cell? ⟨w.heap.size, 2, none⟩ = some (.bool false) ∧ W.cell? ⟨w.heap.size, 3, none⟩ = some (.slice A l.length c) := fun D2 => ⟨D2.cellv rfl, D2.cellv rfl, D2.cellv rfl, D2.cellv rfl⟩
      cases hf : D.fnd D.Fl.name n l with
      | none =>
        have RF := Lib.hid (show ∀ W (h : FRead W (.slice A l.length c) l), Calls Try.prog 52 #[.agg #[.int .i64 room, .int .i64 fuse, .bool false, .slice A l.length c], .string ⟨n.toArray⟩] W fun e w' => e = .returned (.tuple #[.agg #[.string ⟨#[]⟩, .string ⟨#[]⟩, .int .i64 0], .bool false]) ∧ Below W.heap.size W w' from fun W h => by have h9 := rfind_any ⟨room, fuse, false, l⟩ (.slice A l.length c) W h n hlen; dsimp only at h9; rw [hf] at h9; exact h9)
        by_cases hfull : room - (D.used l : Int) < (b.length : Int)
        · have hR : D.append ⟨room, fuse, false, l⟩ n b = (⟨room, fuse, false, l⟩, 9) := D.append_full rfl hg hfull
          have d1 : decide (room - (D.used l : Int) < (b.length : Int)) = true := decide_eq_true hfull
          have d1' : decide (4095 < l.length) = true ∨ decide (4095 < l.length) = false := by cases decide (4095 < l.length) <;> simp
          rw [hR]
          go_enter Try.func81, Try.ntmps81
          go_wp2_with (first | (go_at_call 95; (with_reducible refine (GG.out _).mono ?_); rintro e w1 ⟨rfl, rfl⟩) | (go_at_call 52; (with_reducible refine (RF.out _ (fread_row hrow0)).mono ?_); rintro e w2 ⟨rfl, hb2⟩; have D2 := (D0.at_ hb2).alloc (.cells #[.string ⟨#[]⟩, .string ⟨#[]⟩, .int .i64 0] 81); have R2 := (R0.at_ hb2).alloc (.cells #[.string ⟨#[]⟩, .string ⟨#[]⟩, .int .i64 0] 81); have F2 := Blk.new w2 #[.string ⟨#[]⟩, .string ⟨#[]⟩, .int .i64 0] 81; have hB2 := hB0.trans (hb2.mono hB0.size); have hB3 := hB2.alloc hB2.size (.cells #[.string ⟨#[]⟩, .string ⟨#[]⟩, .int .i64 0] 81); obtain ⟨c20, c21, c22, c23⟩ := q0 D2; have hrow2 := FRow.alloc (hrow0.at_ hb2) (.cells #[.string ⟨#[]⟩, .string ⟨#[]⟩, .int .i64 0] 81); have hlt2 := hb2.size; simp only [World.size_alloc] at hlt2; have hle2 : w.heap.size ≤ w2.heap.size := (by omega); have hne1 : w.heap.size ≠ w2.heap.size := (by omega); have hne2 : w2.heap.size ≠ w.heap.size := (by omega); have hne3 : w2.heap.size ≠ w.heap.size + 1 := (by omega); have hne4 : w.heap.size + 1 ≠ w2.heap.size := (by omega); clear hlt2))
          have k0 := fun W hW => cell_regrown c20 W hW
          have k1 := fun W hW => cell_regrown c21 W hW
          have k2 := fun W hW => cell_regrown c22 W hW
          have k3 := fun W hW => cell_regrown c23 W hW
          refine wp_region_quiet_below (by kernel_rfl) (by kernel_rfl) ?_
          repeat (first | (go_big_quiet_want; refine quiet_load_row 76 (.tmp 3) (by rfl) (w.heap.size) (by rfl) 76 (#[.int .i64 room, .int .i64 fuse, .bool false, .slice A l.length c]) (0, 0) _ (heap_regrown D2) Try.underlying76 (by rfl) (size_dskC _ _ _ _) ?_; simp only [Act.put, List.setIfInBounds_toArray, List.set_cons_succ, List.set_cons_zero]; go_big_quiet_on) | go_big_quiet_step (first | with_reducible exact calls_regrown _ (fun W hW => RU.out W (fread_row (FRow.at_ hrow2 hW))) | fail))
          refine wpQuiet_nil ?_
          intro w1 hw1
          have hbq := below_of_regrown hw1
          have D4 := D2.at_ hbq
          have R4 := R2.at_ hbq
          have F4 := F2.at_ hbq
          have hB4 := hB3.trans (hbq.mono hB3.size)
          have hrow4 := FRow.at_ hrow2 hbq
          obtain ⟨x00, x01, x02, x03, y00, y01, y02, y03⟩ := free4 D4
          obtain ⟨x10, x11, x12, x13, y10, y11, y12, y13⟩ := free4 R4
          obtain ⟨x20, x21, x22, y20, y21, y22⟩ := free3 F4
          clear k0 k1 k2 k3 c20 c21 c22 c23
          go_wp2
          obtain ⟨b1, o1⟩ := blk4 R4 (.int .i64 room) (.int .i64 fuse) (.bool false) (.slice A l.length c)
          exact bodyPost_ret (v := .tuple #[.agg #[.int .i64 room, .int .i64 fuse, .bool false, .slice A l.length c], .int .i64 9]) (results_blk2 (by rfl) _ b1 _ _ (by rfl) (by rfl) Try.underlying76 (by rfl) (size_dskC _ _ _ _)) rfl ⟨_, rfl, ⟨A, c, rfl, RowN.only hrow4 R4 (by decide) o1⟩, o1.below hB4 (by omega)⟩
        · have d1 : decide (room - (D.used l : Int) < (b.length : Int)) = false := decide_eq_false hfull
          by_cases hmany : 4096 ≤ l.length
          · have hR : D.append ⟨room, fuse, false, l⟩ n b = (⟨room, fuse, false, l⟩, 9) := D.append_many rfl hg hf hmany
            have d2 : decide ((4095 : Int) < (l.length : Int)) = true := decide_eq_true (by omega)
            have d3 : decide (4095 < l.length) = true := decide_eq_true (by omega)
            rw [hR]
            go_enter Try.func81, Try.ntmps81
            go_wp2_with (first | (go_at_call 95; (with_reducible refine (GG.out _).mono ?_); rintro e w1 ⟨rfl, rfl⟩) | (go_at_call 52; (with_reducible refine (RF.out _ (fread_row hrow0)).mono ?_); rintro e w2 ⟨rfl, hb2⟩; have D2 := (D0.at_ hb2).alloc (.cells #[.string ⟨#[]⟩, .string ⟨#[]⟩, .int .i64 0] 81); have R2 := (R0.at_ hb2).alloc (.cells #[.string ⟨#[]⟩, .string ⟨#[]⟩, .int .i64 0] 81); have F2 := Blk.new w2 #[.string ⟨#[]⟩, .string ⟨#[]⟩, .int .i64 0] 81; have hB2 := hB0.trans (hb2.mono hB0.size); have hB3 := hB2.alloc hB2.size (.cells #[.string ⟨#[]⟩, .string ⟨#[]⟩, .int .i64 0] 81); obtain ⟨c20, c21, c22, c23⟩ := q0 D2; have hrow2 := FRow.alloc (hrow0.at_ hb2) (.cells #[.string ⟨#[]⟩, .string ⟨#[]⟩, .int .i64 0] 81); have hlt2 := hb2.size; simp only [World.size_alloc] at hlt2; have hle2 : w.heap.size ≤ w2.heap.size := (by omega); have hne1 : w.heap.size ≠ w2.heap.size := (by omega); have hne2 : w2.heap.size ≠ w.heap.size := (by omega); have hne3 : w2.heap.size ≠ w.heap.size + 1 := (by omega); have hne4 : w.heap.size + 1 ≠ w2.heap.size := (by omega); clear hlt2))
            have k0 := fun W hW => cell_regrown c20 W hW
            have k1 := fun W hW => cell_regrown c21 W hW
            have k2 := fun W hW => cell_regrown c22 W hW
            have k3 := fun W hW => cell_regrown c23 W hW
            refine wp_region_quiet_below (by kernel_rfl) (by kernel_rfl) ?_
            repeat (first | (go_big_quiet_want; refine quiet_load_row 76 (.tmp 3) (by rfl) (w.heap.size) (by rfl) 76 (#[.int .i64 room, .int .i64 fuse, .bool false, .slice A l.length c]) (0, 0) _ (heap_regrown D2) Try.underlying76 (by rfl) (size_dskC _ _ _ _) ?_; simp only [Act.put, List.setIfInBounds_toArray, List.set_cons_succ, List.set_cons_zero]; go_big_quiet_on) | go_big_quiet_step (first | with_reducible exact calls_regrown _ (fun W hW => RU.out W (fread_row (FRow.at_ hrow2 hW))) | fail))
            refine wpQuiet_nil ?_
            intro w1 hw1
            have hbq := below_of_regrown hw1
            have D4 := D2.at_ hbq
            have R4 := R2.at_ hbq
            have F4 := F2.at_ hbq
            have hB4 := hB3.trans (hbq.mono hB3.size)
            have hrow4 := FRow.at_ hrow2 hbq
            obtain ⟨x00, x01, x02, x03, y00, y01, y02, y03⟩ := free4 D4
            obtain ⟨x10, x11, x12, x13, y10, y11, y12, y13⟩ := free4 R4
            obtain ⟨x20, x21, x22, y20, y21, y22⟩ := free3 F4
            clear k0 k1 k2 k3 c20 c21 c22 c23
            go_wp2
            obtain ⟨b1, o1⟩ := blk4 R4 (.int .i64 room) (.int .i64 fuse) (.bool false) (.slice A l.length c)
            exact bodyPost_ret (v := .tuple #[.agg #[.int .i64 room, .int .i64 fuse, .bool false, .slice A l.length c], .int .i64 9]) (results_blk2 (by rfl) _ b1 _ _ (by rfl) (by rfl) Try.underlying76 (by rfl) (size_dskC _ _ _ _)) rfl ⟨_, rfl, ⟨A, c, rfl, RowN.only hrow4 R4 (by decide) o1⟩, o1.below hB4 (by omega)⟩
          --<N
          · have d2 : decide ((4095 : Int) < (l.length : Int)) = false := decide_eq_false (by omega)
            have d3 : decide (4095 < l.length) = false := decide_eq_false (by omega)
            have hR : D.append ⟨room, fuse, false, l⟩ n b = ({ (D.deed ⟨room, fuse, false, l⟩).1 with files := D.ins D.Fl.name ⟨n, b, 0⟩ l }, (D.deed ⟨room, fuse, false, l⟩).2) := D.append_new rfl hg hf (by show (b.length : Int) ≤ room - (D.used l : Int); omega) (by show l.length < 4096; omega)
            have hP : D.putGo ⟨n, b, 0⟩ false l = D.ins D.Fl.name ⟨n, b, 0⟩ l := D.put_new hri hf rfl
            rw [hR, ← hP]
            have hdf := D.deed_files ⟨room, fuse, false, l⟩
            generalize D.deed ⟨room, fuse, false, l⟩ = DD at *
            obtain ⟨⟨room1, fuse1, dead1, l1⟩, e1⟩ := DD
            obtain rfl : l1 = l := hdf
            dsimp only at *
            have RP := Lib.hid (fun W (h : FRead W (.slice A l1.length c) l1) => rput_any ⟨room1, fuse1, dead1, l1⟩ ⟨n, b, 0⟩ A c W h hlen)
            unfold dskV filV at RP
            dsimp only at RP
            rw [show ((0 : Nat) : Int) = 0 from rfl] at RP
            have hab := barr_append [] b
            rw [List.nil_append] at hab
            clear hR hP hri hf
            generalize D.putGo ⟨n, b, 0⟩ false l1 = L' at *
            go_enter Try.func81, Try.ntmps81
            go_wp2_with (first | (go_at_call 95; (with_reducible refine (GG.out _).mono ?_); rintro e w1 ⟨rfl, rfl⟩) | (go_at_call 52; (with_reducible refine (RF.out _ (fread_row hrow0)).mono ?_); rintro e w2 ⟨rfl, hb2⟩; have D2 := (D0.at_ hb2).alloc (.cells #[.string ⟨#[]⟩, .string ⟨#[]⟩, .int .i64 0] 81); have R2 := (R0.at_ hb2).alloc (.cells #[.string ⟨#[]⟩, .string ⟨#[]⟩, .int .i64 0] 81); have F2 := Blk.new w2 #[.string ⟨#[]⟩, .string ⟨#[]⟩, .int .i64 0] 81; have hB2 := hB0.trans (hb2.mono hB0.size); have hB3 := hB2.alloc hB2.size (.cells #[.string ⟨#[]⟩, .string ⟨#[]⟩, .int .i64 0] 81); obtain ⟨c20, c21, c22, c23⟩ := q0 D2; have hrow2 := FRow.alloc (hrow0.at_ hb2) (.cells #[.string ⟨#[]⟩, .string ⟨#[]⟩, .int .i64 0] 81); have hlt2 := hb2.size; simp only [World.size_alloc] at hlt2; have hle2 : w.heap.size ≤ w2.heap.size := (by omega); have hne1 : w.heap.size ≠ w2.heap.size := (by omega); have hne2 : w2.heap.size ≠ w.heap.size := (by omega); have hne3 : w2.heap.size ≠ w.heap.size + 1 := (by omega); have hne4 : w.heap.size + 1 ≠ w2.heap.size := (by omega); clear hlt2))
            have k0 := fun W hW => cell_regrown c20 W hW
            have k1 := fun W hW => cell_regrown c21 W hW
            have k2 := fun W hW => cell_regrown c22 W hW
            have k3 := fun W hW => cell_regrown c23 W hW
            refine wp_region_quiet_below (by kernel_rfl) (by kernel_rfl) ?_
            repeat (first | (go_big_quiet_want; refine quiet_load_row 76 (.tmp 3) (by rfl) (w.heap.size) (by rfl) 76 (#[.int .i64 room, .int .i64 fuse, .bool false, .slice A l.length c]) (0, 0) _ (heap_regrown D2) Try.underlying76 (by rfl) (size_dskC _ _ _ _) ?_; simp only [Act.put, List.setIfInBounds_toArray, List.set_cons_succ, List.set_cons_zero]; go_big_quiet_on) | go_big_quiet_step (first | with_reducible exact calls_regrown _ (fun W hW => RU.out W (fread_row (FRow.at_ hrow2 hW))) | fail))
            refine wpQuiet_nil ?_
            intro w1 hw1
            have hbq := below_of_regrown hw1
            have D4 := D2.at_ hbq
            have R4 := R2.at_ hbq
            have F4 := F2.at_ hbq
            have hB4 := hB3.trans (hbq.mono hB3.size)
            have hrow4 := FRow.at_ hrow2 hbq
            obtain ⟨x00, x01, x02, x03, y00, y01, y02, y03⟩ := free4 D4
            obtain ⟨x10, x11, x12, x13, y10, y11, y12, y13⟩ := free4 R4
            obtain ⟨x20, x21, x22, y20, y21, y22⟩ := free3 F4
            clear k0 k1 k2 k3 c20 c21 c22 c23
            go_wp2_with (first | (go_at_call 96; (with_reducible refine (RD.out _).mono ?_); rintro e w5 ⟨rfl, hb5⟩; have D5 := D4.at_ hb5; have R5 := R4.at_ hb5; have F5 := F4.at_ hb5; have hB5 := hB4.trans (hb5.mono hB4.size); have hrow5 := FRow.at_ hrow4 hb5; obtain ⟨u00, u01, u02, u03, v00, v01, v02, v03⟩ := free4 D5; obtain ⟨u20, u21, u22, v20, v21, v22⟩ := free3 F5) | (go_at_call 97; (obtain ⟨W6, hW6, hB6, hR6⟩ := store6 hB5 (Nat.le_refl _) (show w.heap.size ≤ w2.heap.size by omega) (.int .i64 room1) (.int .i64 fuse1) (.bool dead1) (.slice A l1.length c) (.string ⟨(n : List UInt8).toArray⟩) (.string ⟨(b : List UInt8).toArray⟩); rw [← hW6]; have R6 := hR6 _ _ _ R5 (by omega) hne4; have hrow6 := FRow.at_ hrow hB6; (with_reducible refine (RP.out _ (fread_row hrow6)).mono ?_); rintro e w7 ⟨A7, c7, rfl, hrow7, hb7⟩; have R7 := R6.at_ hb7; have hB7 := hB6.trans (hb7.mono hB6.size); obtain ⟨p10, p11, p12, p13, q10, q11, q12, q13⟩ := free4 R7)))
            obtain ⟨b1, o1⟩ := blk4 R7 (.int .i64 room1) (.int .i64 fuse1) (.bool dead1) (.slice A7 L'.length c7)
            exact bodyPost_ret (v := .tuple #[.agg #[.int .i64 room1, .int .i64 fuse1, .bool dead1, .slice A7 L'.length c7], .int .i64 (e1 : Int)]) (results_blk2 (by rfl) _ b1 _ _ (by rfl) (by rfl) Try.underlying76 (by rfl) (size_dskC _ _ _ _)) rfl ⟨_, rfl, ⟨A7, c7, rfl, RowN.only hrow7 R7 (by decide) o1⟩, o1.below hB7 (by omega)⟩
          -->N
      | some f0 =>
        obtain ⟨nm, fb, fs⟩ := f0
        obtain ⟨hmem, hnm⟩ := D.fnd_mem D.Fl.name hf
        obtain rfl : nm = n := hnm
        have hfb : fb.length ≤ 1000000000 := by
          have := D.used_mem hmem
          dsimp only at this
          omega
        have RF := Lib.hid (show ∀ W (h : FRead W (.slice A l.length c) l), Calls Try.prog 52 #[.agg #[.int .i64 room, .int .i64 fuse, .bool false, .slice A l.length c], .string ⟨nm.toArray⟩] W fun e w' => e = .returned (.tuple #[.agg #[.string ⟨nm.toArray⟩, .string ⟨fb.toArray⟩, .int .i64 (fs : Int)], .bool true]) ∧ Below W.heap.size W w' from fun W h => by have h9 := rfind_any ⟨room, fuse, false, l⟩ (.slice A l.length c) W h nm hlen; dsimp only at h9; rw [hf] at h9; exact h9)
        by_cases hfull : room - (D.used l : Int) < (b.length : Int)
        --<O
        · have hR : D.append ⟨room, fuse, false, l⟩ nm b = (⟨room, fuse, false, l⟩, 9) := D.append_full rfl hg hfull
          have d1 : decide (room - (D.used l : Int) < (b.length : Int)) = true := decide_eq_true hfull
          rw [hR]
          go_enter Try.func81, Try.ntmps81
          go_wp2_with (first | (go_at_call 95; (with_reducible refine (GG.out _).mono ?_); rintro e w1 ⟨rfl, rfl⟩) | (go_at_call 52; (with_reducible refine (RF.out _ (fread_row hrow0)).mono ?_); rintro e w2 ⟨rfl, hb2⟩; have D2 := (D0.at_ hb2).alloc (.cells #[.string ⟨nm.toArray⟩, .string ⟨fb.toArray⟩, .int .i64 (fs : Int)] 81); have R2 := (R0.at_ hb2).alloc (.cells #[.string ⟨nm.toArray⟩, .string ⟨fb.toArray⟩, .int .i64 (fs : Int)] 81); have F2 := Blk.new w2 #[.string ⟨nm.toArray⟩, .string ⟨fb.toArray⟩, .int .i64 (fs : Int)] 81; have hB2 := hB0.trans (hb2.mono hB0.size); have hB3 := hB2.alloc hB2.size (.cells #[.string ⟨nm.toArray⟩, .string ⟨fb.toArray⟩, .int .i64 (fs : Int)] 81); obtain ⟨c20, c21, c22, c23⟩ := q0 D2; have hrow2 := FRow.alloc (hrow0.at_ hb2) (.cells #[.string ⟨nm.toArray⟩, .string ⟨fb.toArray⟩, .int .i64 (fs : Int)] 81); have hlt2 := hb2.size; simp only [World.size_alloc] at hlt2; have hle2 : w.heap.size ≤ w2.heap.size := (by omega); have hne1 : w.heap.size ≠ w2.heap.size := (by omega); have hne2 : w2.heap.size ≠ w.heap.size := (by omega); have hne3 : w2.heap.size ≠ w.heap.size + 1 := (by omega); have hne4 : w.heap.size + 1 ≠ w2.heap.size := (by omega); clear hlt2))
          have k0 := fun W hW => cell_regrown c20 W hW
          have k1 := fun W hW => cell_regrown c21 W hW
          have k2 := fun W hW => cell_regrown c22 W hW
          have k3 := fun W hW => cell_regrown c23 W hW
          refine wp_region_quiet_below (by kernel_rfl) (by kernel_rfl) ?_
          repeat (first | (go_big_quiet_want; refine quiet_load_row 76 (.tmp 3) (by rfl) (w.heap.size) (by rfl) 76 (#[.int .i64 room, .int .i64 fuse, .bool false, .slice A l.length c]) (0, 0) _ (heap_regrown D2) Try.underlying76 (by rfl) (size_dskC _ _ _ _) ?_; simp only [Act.put, List.setIfInBounds_toArray, List.set_cons_succ, List.set_cons_zero]; go_big_quiet_on) | go_big_quiet_step (first | with_reducible exact calls_regrown _ (fun W hW => RU.out W (fread_row (FRow.at_ hrow2 hW))) | fail))
          refine wpQuiet_nil ?_
          intro w1 hw1
          have hbq := below_of_regrown hw1
          have D4 := D2.at_ hbq
          have R4 := R2.at_ hbq
          have F4 := F2.at_ hbq
          have hB4 := hB3.trans (hbq.mono hB3.size)
          have hrow4 := FRow.at_ hrow2 hbq
          obtain ⟨x00, x01, x02, x03, y00, y01, y02, y03⟩ := free4 D4
          obtain ⟨x10, x11, x12, x13, y10, y11, y12, y13⟩ := free4 R4
          obtain ⟨x20, x21, x22, y20, y21, y22⟩ := free3 F4
          clear k0 k1 k2 k3 c20 c21 c22 c23
          go_wp2
          obtain ⟨b1, o1⟩ := blk4 R4 (.int .i64 room) (.int .i64 fuse) (.bool false) (.slice A l.length c)
          exact bodyPost_ret (v := .tuple #[.agg #[.int .i64 room, .int .i64 fuse, .bool false, .slice A l.length c], .int .i64 9]) (results_blk2 (by rfl) _ b1 _ _ (by rfl) (by rfl) Try.underlying76 (by rfl) (size_dskC _ _ _ _)) rfl ⟨_, rfl, ⟨A, c, rfl, RowN.only hrow4 R4 (by decide) o1⟩, o1.below hB4 (by omega)⟩
        -->O
        --<P
        · have d1 : decide (room - (D.used l : Int) < (b.length : Int)) = false := decide_eq_false hfull
          have hR : D.append ⟨room, fuse, false, l⟩ nm b = ({ (D.deed ⟨room, fuse, false, l⟩).1 with files := D.upd D.Fl.name nm (fun f => { f with b := f.b ++ b }) l }, (D.deed ⟨room, fuse, false, l⟩).2) := D.append_old rfl hg hf (by show (b.length : Int) ≤ room - (D.used l : Int); omega)
          have hP : D.putGo ⟨nm, fb ++ b, fs⟩ false l = D.upd D.Fl.name nm (fun f => { f with b := f.b ++ b }) l := D.put_old hri hf rfl rfl
          rw [hR, ← hP]
          have hdf := D.deed_files ⟨room, fuse, false, l⟩
          generalize D.deed ⟨room, fuse, false, l⟩ = DD at *
          obtain ⟨⟨room1, fuse1, dead1, l1⟩, e1⟩ := DD
          obtain rfl : l1 = l := hdf
          dsimp only at *
          have RP := Lib.hid (fun W (h : FRead W (.slice A l1.length c) l1) => rput_any ⟨room1, fuse1, dead1, l1⟩ ⟨nm, fb ++ b, fs⟩ A c W h hlen)
          unfold dskV filV at RP
          dsimp only at RP
          have hab := barr_append fb b
          clear hR hP hri hf hmem
          generalize D.putGo ⟨nm, fb ++ b, fs⟩ false l1 = L' at *
          generalize fb ++ b = fbb at *
          go_enter Try.func81, Try.ntmps81
          go_wp2_with (first | (go_at_call 95; (with_reducible refine (GG.out _).mono ?_); rintro e w1 ⟨rfl, rfl⟩) | (go_at_call 52; (with_reducible refine (RF.out _ (fread_row hrow0)).mono ?_); rintro e w2 ⟨rfl, hb2⟩; have D2 := (D0.at_ hb2).alloc (.cells #[.string ⟨nm.toArray⟩, .string ⟨fb.toArray⟩, .int .i64 (fs : Int)] 81); have R2 := (R0.at_ hb2).alloc (.cells #[.string ⟨nm.toArray⟩, .string ⟨fb.toArray⟩, .int .i64 (fs : Int)] 81); have F2 := Blk.new w2 #[.string ⟨nm.toArray⟩, .string ⟨fb.toArray⟩, .int .i64 (fs : Int)] 81; have hB2 := hB0.trans (hb2.mono hB0.size); have hB3 := hB2.alloc hB2.size (.cells #[.string ⟨nm.toArray⟩, .string ⟨fb.toArray⟩, .int .i64 (fs : Int)] 81); obtain ⟨c20, c21, c22, c23⟩ := q0 D2; have hrow2 := FRow.alloc (hrow0.at_ hb2) (.cells #[.string ⟨nm.toArray⟩, .string ⟨fb.toArray⟩, .int .i64 (fs : Int)] 81); have hlt2 := hb2.size; simp only [World.size_alloc] at hlt2; have hle2 : w.heap.size ≤ w2.heap.size := (by omega); have hne1 : w.heap.size ≠ w2.heap.size := (by omega); have hne2 : w2.heap.size ≠ w.heap.size := (by omega); have hne3 : w2.heap.size ≠ w.heap.size + 1 := (by omega); have hne4 : w.heap.size + 1 ≠ w2.heap.size := (by omega); clear hlt2))
          have k0 := fun W hW => cell_regrown c20 W hW
          have k1 := fun W hW => cell_regrown c21 W hW
          have k2 := fun W hW => cell_regrown c22 W hW
          have k3 := fun W hW => cell_regrown c23 W hW
          refine wp_region_quiet_below (by kernel_rfl) (by kernel_rfl) ?_
          repeat (first | (go_big_quiet_want; refine quiet_load_row 76 (.tmp 3) (by rfl) (w.heap.size) (by rfl) 76 (#[.int .i64 room, .int .i64 fuse, .bool false, .slice A l.length c]) (0, 0) _ (heap_regrown D2) Try.underlying76 (by rfl) (size_dskC _ _ _ _) ?_; simp only [Act.put, List.setIfInBounds_toArray, List.set_cons_succ, List.set_cons_zero]; go_big_quiet_on) | go_big_quiet_step (first | with_reducible exact calls_regrown _ (fun W hW => RU.out W (fread_row (FRow.at_ hrow2 hW))) | fail))
          refine wpQuiet_nil ?_
          intro w1 hw1
          have hbq := below_of_regrown hw1
          have D4 := D2.at_ hbq
          have R4 := R2.at_ hbq
          have F4 := F2.at_ hbq
          have hB4 := hB3.trans (hbq.mono hB3.size)
          have hrow4 := FRow.at_ hrow2 hbq
          obtain ⟨x00, x01, x02, x03, y00, y01, y02, y03⟩ := free4 D4
          obtain ⟨x10, x11, x12, x13, y10, y11, y12, y13⟩ := free4 R4
          obtain ⟨x20, x21, x22, y20, y21, y22⟩ := free3 F4
          clear k0 k1 k2 k3 c20 c21 c22 c23
          go_wp2_with (first | (go_at_call 96; (with_reducible refine (RD.out _).mono ?_); rintro e w5 ⟨rfl, hb5⟩; have D5 := D4.at_ hb5; have R5 := R4.at_ hb5; have F5 := F4.at_ hb5; have hB5 := hB4.trans (hb5.mono hB4.size); have hrow5 := FRow.at_ hrow4 hb5; obtain ⟨u00, u01, u02, u03, v00, v01, v02, v03⟩ := free4 D5; obtain ⟨u20, u21, u22, v20, v21, v22⟩ := free3 F5) | (go_at_call 97; (obtain ⟨W6, hW6, hB6, hR6⟩ := store6 hB5 (Nat.le_refl _) (show w.heap.size ≤ w2.heap.size by omega) (.int .i64 room1) (.int .i64 fuse1) (.bool dead1) (.slice A l1.length c) (.string ⟨(nm : List UInt8).toArray⟩) (.string ⟨(fbb : List UInt8).toArray⟩); rw [← hW6]; have R6 := hR6 _ _ _ R5 (by omega) hne4; have hrow6 := FRow.at_ hrow hB6; (with_reducible refine (RP.out _ (fread_row hrow6)).mono ?_); rintro e w7 ⟨A7, c7, rfl, hrow7, hb7⟩; have R7 := R6.at_ hb7; have hB7 := hB6.trans (hb7.mono hB6.size); obtain ⟨p10, p11, p12, p13, q10, q11, q12, q13⟩ := free4 R7)))
          obtain ⟨b1, o1⟩ := blk4 R7 (.int .i64 room1) (.int .i64 fuse1) (.bool dead1) (.slice A7 L'.length c7)
          exact bodyPost_ret (v := .tuple #[.agg #[.int .i64 room1, .int .i64 fuse1, .bool dead1, .slice A7 L'.length c7], .int .i64 (e1 : Int)]) (results_blk2 (by rfl) _ b1 _ _ (by rfl) (by rfl) Try.underlying76 (by rfl) (size_dskC _ _ _ _)) rfl ⟨_, rfl, ⟨A7, c7, rfl, RowN.only hrow7 R7 (by decide) o1⟩, o1.below hB7 (by omega)⟩
        -->P
end Go.Proofs.Ytknkbioalohofaa
