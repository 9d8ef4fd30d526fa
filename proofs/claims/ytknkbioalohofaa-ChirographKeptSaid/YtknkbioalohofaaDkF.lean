/- The walk of the disk's Append. -/
import Derived.Test.YtknkbioalohofaaDkE
namespace Go.Proofs.Ytknkbioalohofaa
open Go.RowKit Go.Maps Go.ChangeMaps Go.MapKept Go.WideMaps

theorem MapE.len {w : World} {mb : Nat} {Es : List D.Ent} (h : MapE w mb Es) (ty : TypeId) : (Builtin.len_ #[124] ty #[.map (some mb)]).run Try.prog w = .ok (.int .i64 (Es.length : Int)) w := by
  have := World.ownsMap.len h Try.underlying124 ty
  rw [D.datum_size] at this
  exact this
theorem Buf.shape2 {w : World} {v : Value} {xs : List UInt8} (h : Buf w v xs) : ∃ A L c, v = .slice A L c := by
  obtain ⟨A, c, h⟩ := h.shape
  exact ⟨A, _, c, h⟩
theorem upd_ins {x : D.Fl} {g : D.Fl → D.Fl} (l : List D.Fl) (h : D.fnd D.Fl.name x.name l = none) (hg : (g x).name = x.name) : D.upd D.Fl.name x.name g (D.ins D.Fl.name x l) = D.ins D.Fl.name (g x) l := by
  induction l with
  | nil => simp [D.ins, D.upd]
  | cons y r ih =>
    have hy : (y.name == x.name) = false := by rw [beq_eq_false_iff_ne]; exact D.fnd_none _ h y List.mem_cons_self
    have hr : D.fnd D.Fl.name x.name r = none := by rw [D.fnd_cons, hy] at h; exact h
    have hur : D.upd D.Fl.name x.name g r = r := D.upd_none _ hr
    unfold D.ins
    rw [hg]
    split
    · show (if (x.name == x.name) = true then g x else x) :: (if (y.name == x.name) = true then g y else y) :: D.upd D.Fl.name x.name g r = _
      rw [hur, hy]; simp
    · show (if (y.name == x.name) = true then g y else y) :: D.upd D.Fl.name x.name g (D.ins D.Fl.name x r) = _
      rw [ih hr, hy]; simp
set_option maxRecDepth 100000 in
set_option maxHeartbeats 4000000 in
theorem append_any {B : Nat} {w : World} {p : Nat} {M : D.Dk} (h : DkAt B w p M) (n b : List UInt8) (hn : n.length ≤ 9223372036854775807) (hb : b.length ≤ 9223372036854775807) (hu : D.used M.files + b.length ≤ 1099511627776) :
    Calls Try.prog 38 #[.pointer (some ⟨p, 0, none⟩), .string ⟨n.toArray⟩, .string ⟨b.toArray⟩] w fun e w' => e = .returned (.int .i64 ((D.append M n b).2 : Int)) ∧ DkAt B w' p (D.append M n b).1 ∧ DStp B w w' := by
  obtain ⟨mb, Es, h⟩ := h
  have c0 := h.blk.cellv (i := 0) rfl
  have c1 := h.blk.cellv (i := 1) rfl
  have c3 := h.blk.cellv (i := 3) rfl
  have GG := Lib.hid (fun W => good_any n W)
  cases hd : M.dead with
  | true =>
    have hR : D.append M n b = (M, 10) := by unfold D.append; rw [if_pos hd]
    rw [hd] at c3
    rw [hR]
    go_enter Try.func38, Try.ntmps38
    go_wp2
    go_ret
    exact ⟨rfl, ⟨mb, Es, h⟩, DStp.refl _ _⟩
  | false =>
    have DL := Lib.hid (fun W (hh : DkE B W p mb M Es) => deed_live hh hd)
    have UU := Lib.hid (fun W (hh : DkE B W p mb M Es) => used_any hh (by omega))
    rw [hd] at c3
    cases hg : D.good n with
    | false =>
      have hR : D.append M n b = (M, 1) := by unfold D.append; rw [if_neg (by simp [hd]), if_pos hg]
      rw [hg] at GG
      rw [hR]
      go_enter Try.func38, Try.ntmps38
      go_wp2_with (go_at_call 76; (with_reducible refine (GG.out _).mono ?_); rintro e w1 ⟨rfl, rfl⟩)
      go_ret
      exact ⟨rfl, ⟨mb, Es, h⟩, DStp.refl _ _⟩
    | true =>
      have hn100 : n.length ≤ 100 := by unfold D.good at hg; simp at hg; exact hg.2
      rw [hg] at GG
      have q0 := fun W hW => cell_regrown c0 W hW
      have q1 := fun W hW => cell_regrown c1 W hW
      have ql : ∀ d os, (Builtin.len_ #[124] 3 #[.map (some mb)]).run Try.prog (Go.Sort.grow (redrawn w d) os) = .ok (.int .i64 (Es.length : Int)) (Go.Sort.grow (redrawn w d) os) := fun d os => (h.at_ (below_regrown w d os)).map.len _
      have hz : (⟨b.toArray⟩ : ByteArray).size = b.length := by simp [ByteArray.size]
      have hwr : IntKind.i64.wrap (M.room - (D.used M.files : Int)) = M.room - (D.used M.files : Int) := IntWalk.i64_in _ (by have := h.room; omega)
      have hEl := h.len
      rcases fnd_ent h.eq n with ⟨h1, h2⟩ | ⟨x, h1, h2⟩
      · have hlk := h.map.look_none hn h1
        by_cases hfull : M.room - (D.used M.files : Int) < (b.length : Int)
        · have hR : D.append M n b = (M, 9) := by unfold D.append; rw [if_neg (by simp [hd]), if_neg (by simp [hg]), h2]; exact if_pos (.inl hfull)
          have d1 : decide (M.room - (D.used M.files : Int) < (b.length : Int)) = true := decide_eq_true hfull
          rw [hR]
          clear hEl ql
          generalize (⟨b.toArray⟩ : ByteArray) = S at *
          go_enter Try.func38, Try.ntmps38
          go_wp2_with (go_at_call 76; (with_reducible refine (GG.out _).mono ?_); rintro e w1 ⟨rfl, rfl⟩)
          refine wp_region_quiet_below (by kernel_rfl) (by kernel_rfl) ?_
          repeat (first  | go_big_quiet_step (first | with_reducible exact calls_regrown _ (fun W hW => UU.out W (h.at_ hW)) | fail))
          refine wpQuiet_nil ?_
          intro w1 hw1
          have hB := below_of_regrown hw1
          go_wp2
          go_ret
          exact ⟨rfl, ⟨mb, Es, h.at_ hB⟩, DStp.of hB (Nat.le_of_lt h.lt)⟩
        · have d1 : decide (M.room - (D.used M.files : Int) < (b.length : Int)) = false := decide_eq_false hfull
          by_cases hmany : 4096 ≤ M.files.length
          · have hR : D.append M n b = (M, 9) := by unfold D.append; rw [if_neg (by simp [hd]), if_neg (by simp [hg]), h2]; exact if_pos (.inr hmany)
            have d2 : decide ((4096 : Int) ≤ (Es.length : Int)) = true := by rw [hEl]; simp; omega
            have d3 : decide (4096 ≤ Es.length) = true := by rw [hEl]; simp; omega
            rw [hR]
            clear hEl
            generalize (⟨b.toArray⟩ : ByteArray) = S at *
            go_enter Try.func38, Try.ntmps38
            go_wp2_with (go_at_call 76; (with_reducible refine (GG.out _).mono ?_); rintro e w1 ⟨rfl, rfl⟩)
            refine wp_region_quiet_below (by kernel_rfl) (by kernel_rfl) ?_
            repeat (first  | go_big_quiet_step (first | with_reducible exact calls_regrown _ (fun W hW => UU.out W (h.at_ hW)) | fail))
            refine wpQuiet_nil ?_
            intro w1 hw1
            have hB := below_of_regrown hw1
            clear ql
            go_wp2
            go_ret
            exact ⟨rfl, ⟨mb, Es, h.at_ hB⟩, DStp.of hB (Nat.le_of_lt h.lt)⟩
          · have hR : D.append M n b = ({ (D.deed M).1 with files := D.ins D.Fl.name ⟨n, b, 0⟩ (D.deed M).1.files }, (D.deed M).2) := by
              unfold D.append; rw [if_neg (by simp [hd]), if_neg (by simp [hg]), h2, D.deed_files]; exact if_neg (fun e => e.elim hfull hmany)
            have d2 : decide ((4096 : Int) ≤ (Es.length : Int)) = false := by rw [hEl]; simp; omega
            have d3 : decide (4096 ≤ Es.length) = false := by rw [hEl]; simp; omega
            have hfs := D.deed_files M
            have hlen : Es.length < 4096 := by rw [hEl]; omega
            have hf1 : D.fnd D.Fl.name n (D.deed M).1.files = none := by rw [hfs]; exact h2
            have hl1 : (D.deed M).1.files.length < 4096 := by rw [hfs]; omega
            rw [hR]
            clear hEl hR hfs
            generalize (D.deed M).1 = M1 at *
            generalize (D.deed M).2 = E1 at *
            go_enter Try.func38, Try.ntmps38
            go_wp2_with (go_at_call 76; (with_reducible refine (GG.out _).mono ?_); rintro e w1 ⟨rfl, rfl⟩)
            refine wp_region_quiet_below (by kernel_rfl) (by kernel_rfl) ?_
            repeat (first  | go_big_quiet_step (first | with_reducible exact calls_regrown _ (fun W hW => UU.out W (h.at_ hW)) | fail))
            refine wpQuiet_nil ?_
            intro w1 hw1
            have hB := below_of_regrown hw1
            have hlt := h.lt
            replace h := h.at_ hB
            have s0 := DStp.of hB (Nat.le_of_lt hlt)
            clear ql q0 q1 c0 c1 c3 hlk hw1
            go_wp2_with (first | (go_at_call 77; (with_reducible refine (DL.out _ h).mono ?_); rintro e w2 ⟨rfl, k1, s1⟩; have k2 := k1.alloc (.cells #[.slice none 0 0, .int .i64 0] 131); have e1 := k2.blk.cellv (i := 1) rfl) | (at_mapUpdate; refine wpList_mapUpdate_in _ rfl _ _ _ 124 rfl 9 127 lawK Try.underlying124 _ mb _ _ rfl k2.map (by unfold maxLen; omega) _ _ _ rfl rfl (keyS n hn) _ [] (ptrElem_mk w2.heap.size) ?_; intro w3 hown3 ht3; have key3 := k2.add (⟨n, [], 0⟩, w2.heap.size) ht3 hown3 ⟨Nat.le_of_lt k1.lt, ⟨.slice none 0 0, Blk.new w2 _ _, Buf.nil _⟩, Nat.le_refl _, hn100⟩ (fun y hy e => by obtain ⟨-, ⟨v, hy2, -⟩, -⟩ := k1.held y hy; have := hy2.lt; omega) (by rw [D.drp_none _ hf1]; exact hl1); have hx3 : ((⟨n, [], 0⟩ : D.Fl), w2.heap.size) ∈ D.ins D.kE ((⟨n, [], 0⟩ : D.Fl), w2.heap.size) (D.drp D.kE n Es) := (D.mem_ins D.kE).2 (.inl rfl); obtain ⟨hB3, ⟨v3, hb3, hbuf3⟩, -, -⟩ := key3.1.held _ hx3; have e3 := hb3.cellv (i := 0) rfl) | (go_at_call 78; (with_reducible refine (clone_buf hbuf3 (by simp)).mono ?_); rintro e w4 ⟨v4, rfl, hbuf4, ho4, hb4⟩) | (at_builtin; refine wpList_append_buf_str rfl (.tmp 68) (.tmp 69) 41 9 rfl Try.underlying41 Try.underlying9 rfl hbuf4 b rfl (by first | omega | (simp; omega)) ?_; intro v5 w5 hbuf5 hg5 ho5; have hb5 := below_grown_own hb4 hb4.size hg5 ho4; have key5 := key3.1.at_ hb5; obtain ⟨-, ⟨v6, hb6, -⟩, -, -⟩ := key5.held _ hx3; have e6 := hb6.cellv (i := 0) rfl; have f6 := hb6.free 0; obtain ⟨A5, L5, c5, rfl⟩ := hbuf5.shape2; have key6 := key5.setFile hx3 (Only.setCell w5 _ 0 (.slice A5 L5 c5)) (hb6.set_ 0 (.slice A5 L5 c5)) (hbuf5.dstp (DStp.only hb6 (.inr rfl) (Only.setCell w5 _ 0 (.slice A5 L5 c5)) hB3)) (fun f => { f with b := f.b ++ b }) rfl (fun _ => rfl) (Nat.zero_le _); clear hbuf5))
            go_ret
            have s3 : DStp B w1 (w2.alloc (.cells #[.slice none 0 0, .int .i64 0] 131)) := s1.trans (DStp.of ((Below.refl w2.heap.size w2).alloc (Nat.le_refl _) _) (Nat.le_of_lt k1.lt))
            have s5 : DStp B w3 w5 := DStp.of hb5 (Nat.le_of_lt key3.1.lt)
            have e8 : D.ins D.Fl.name ⟨n, b, 0⟩ M1.files = D.upd D.Fl.name n (fun f => { f with b := f.b ++ b }) (D.ins D.Fl.name ⟨n, [], 0⟩ (D.drp D.Fl.name n M1.files)) := by
              rw [D.drp_none _ hf1]
              exact (upd_ins (x := ⟨n, [], 0⟩) (g := fun f => { f with b := f.b ++ b }) M1.files hf1 rfl).symm
            rw [e8]
            exact ⟨rfl, ⟨mb, _, key6.1⟩, s0.trans (s3.trans (key3.2.trans (s5.trans key6.2)))⟩
      · have hlk := h.map.look_some hn h1
        have hx := (D.fnd_mem _ h1).1
        have hxn : x.1.name = n := (D.fnd_mem _ h1).2
        have hxl : x.1.b.length ≤ D.used M.files := D.used_mem (D.fnd_mem _ h2).1
        by_cases hfull : M.room - (D.used M.files : Int) < (b.length : Int)
        · have hR : D.append M n b = (M, 9) := by unfold D.append; rw [if_neg (by simp [hd]), if_neg (by simp [hg]), h2]; exact if_pos hfull
          have d1 : decide (M.room - (D.used M.files : Int) < (b.length : Int)) = true := decide_eq_true hfull
          rw [hR]
          clear hEl ql
          generalize (⟨b.toArray⟩ : ByteArray) = S at *
          go_enter Try.func38, Try.ntmps38
          go_wp2_with (go_at_call 76; (with_reducible refine (GG.out _).mono ?_); rintro e w1 ⟨rfl, rfl⟩)
          refine wp_region_quiet_below (by kernel_rfl) (by kernel_rfl) ?_
          repeat (first  | go_big_quiet_step (first | with_reducible exact calls_regrown _ (fun W hW => UU.out W (h.at_ hW)) | fail))
          refine wpQuiet_nil ?_
          intro w1 hw1
          have hB := below_of_regrown hw1
          go_wp2
          go_ret
          exact ⟨rfl, ⟨mb, Es, h.at_ hB⟩, DStp.of hB (Nat.le_of_lt h.lt)⟩
        · have d1 : decide (M.room - (D.used M.files : Int) < (b.length : Int)) = false := decide_eq_false hfull
          have hR : D.append M n b = ({ (D.deed M).1 with files := D.upd D.Fl.name n (fun f => { f with b := f.b ++ b }) (D.deed M).1.files }, (D.deed M).2) := by
            unfold D.append; rw [if_neg (by simp [hd]), if_neg (by simp [hg]), h2, D.deed_files]; exact if_neg hfull
          have hsure := (h.held x hx).2.2.1
          rw [hR]
          clear hEl hR ql
          generalize (D.deed M).1 = M1 at *
          generalize (D.deed M).2 = E1 at *
          go_enter Try.func38, Try.ntmps38
          go_wp2_with (go_at_call 76; (with_reducible refine (GG.out _).mono ?_); rintro e w1 ⟨rfl, rfl⟩)
          refine wp_region_quiet_below (by kernel_rfl) (by kernel_rfl) ?_
          repeat (first  | go_big_quiet_step (first | with_reducible exact calls_regrown _ (fun W hW => UU.out W (h.at_ hW)) | fail))
          refine wpQuiet_nil ?_
          intro w1 hw1
          have hB := below_of_regrown hw1
          have hlt := h.lt
          replace h := h.at_ hB
          have s0 := DStp.of hB (Nat.le_of_lt hlt)
          clear q0 q1 c0 c1 c3 hlk hw1
          go_wp2_with (first | (go_at_call 77; (with_reducible refine (DL.out _ h).mono ?_); rintro e w3 ⟨rfl, key31, s1⟩; have hx3 := hx; obtain ⟨hB3, ⟨v3, hb3, hbuf3⟩, -, -⟩ := key31.held _ hx3; have e3 := hb3.cellv (i := 0) rfl; have key3 := And.intro key31 s1) | (go_at_call 78; (with_reducible refine (clone_buf hbuf3 (by omega)).mono ?_); rintro e w4 ⟨v4, rfl, hbuf4, ho4, hb4⟩) | (at_builtin; refine wpList_append_buf_str rfl (.tmp 68) (.tmp 69) 41 9 rfl Try.underlying41 Try.underlying9 rfl hbuf4 b rfl (by first | omega | (simp; omega)) ?_; intro v5 w5 hbuf5 hg5 ho5; have hb5 := below_grown_own hb4 hb4.size hg5 ho4; have key5 := key3.1.at_ hb5; obtain ⟨-, ⟨v6, hb6, -⟩, -, -⟩ := key5.held _ hx3; have e6 := hb6.cellv (i := 0) rfl; have f6 := hb6.free 0; obtain ⟨A5, L5, c5, rfl⟩ := hbuf5.shape2; have key6 := key5.setFile hx3 (Only.setCell w5 _ 0 (.slice A5 L5 c5)) (hb6.set_ 0 (.slice A5 L5 c5)) (hbuf5.dstp (DStp.only hb6 (.inr rfl) (Only.setCell w5 _ 0 (.slice A5 L5 c5)) hB3)) (fun f => { f with b := f.b ++ b }) rfl (fun _ => rfl) (by rw [List.length_append]; omega); clear hbuf5))
          go_ret
          have s5 : DStp B w3 w5 := DStp.of hb5 (Nat.le_of_lt key3.1.lt)
          have e9 := key6.1
          rw [hxn] at e9
          exact ⟨rfl, ⟨mb, _, e9⟩, s0.trans (s1.trans (s5.trans key6.2))⟩
end Go.Proofs.Ytknkbioalohofaa
