/- The walks of the disk's Remove, Rename. -/
import Derived.Test.YtknkbioalohofaaDkC
namespace Go.Proofs.Ytknkbioalohofaa
open Go.RowKit Go.Maps Go.ChangeMaps Go.MapKept Go.WideMaps

set_option maxRecDepth 100000 in
set_option maxHeartbeats 2000000 in
theorem remove_any {B : Nat} {w : World} {p : Nat} {M : D.Dk} (h : DkAt B w p M) (n : List UInt8) (hn : n.length ≤ 9223372036854775807) :
    Calls Try.prog 47 #[.pointer (some ⟨p, 0, none⟩), .string ⟨n.toArray⟩] w fun e w' => e = .returned (.int .i64 ((D.remove M n).2 : Int)) ∧ DkAt B w' p (D.remove M n).1 ∧ DStp B w w' := by
  obtain ⟨mb, Es, h⟩ := h
  have c1 := h.blk.cellv (i := 1) rfl
  have c3 := h.blk.cellv (i := 3) rfl
  cases hd : M.dead with
  | true =>
    have hR : D.remove M n = (M, 10) := by unfold D.remove; rw [if_pos hd]
    have DD := Lib.hid (deed_dead h hd)
    rw [hd] at c3
    rw [hR]
    go_enter Try.func47, Try.ntmps47
    go_wp2_with (go_at_call 77; (with_reducible refine DD.out.mono ?_); rintro e w1 ⟨rfl, rfl⟩)
    go_ret
    exact ⟨rfl, ⟨mb, Es, h⟩, DStp.refl _ _⟩
  | false =>
    have DL := Lib.hid (deed_live h hd)
    rw [hd] at c3
    rcases fnd_ent h.eq n with ⟨h1, h2⟩ | ⟨x, h1, h2⟩
    · have hR : D.remove M n = (M, 7) := by unfold D.remove; rw [if_neg (by simp [hd]), h2]
      have hlk := h.map.look_none hn h1
      rw [hR]
      go_enter Try.func47, Try.ntmps47
      go_wp2_with (go_at_call 77; fail)
      go_ret
      exact ⟨rfl, ⟨mb, Es, h⟩, DStp.refl _ _⟩
    · have hlk := h.map.look_some hn h1
      rcases deed_vals M with hv | hv
      · have hR : D.remove M n = ({ (D.deed M).1 with files := D.drp D.Fl.name n (D.deed M).1.files }, 0) := by
          unfold D.remove; rw [if_neg (by simp [hd]), h2, D.deed_files]; show (if (D.deed M).2 = 0 then _ else _) = _; rw [if_pos hv]
        rw [hv] at DL
        rw [hR]
        clear h2 hR
        generalize (D.deed M).1 = M1 at *
        go_enter Try.func47, Try.ntmps47
        go_wp2_with (first | (go_at_call 77; (with_reducible refine DL.out.mono ?_); rintro e w1 ⟨rfl, k1, s1⟩; have e1 := k1.blk.cellv (i := 1) rfl) | (at_delete; refine wpList_delete_own _ rfl _ _ 124 9 rfl 127 lawK Try.underlying124 _ mb _ _ rfl k1.map _ _ rfl (keyS n hn) ?_; intro w2 hown2 ht2; have key := k1.del n ht2 hown2))
        go_ret
        exact ⟨rfl, ⟨mb, _, key.1⟩, s1.trans key.2⟩
      · have hR : D.remove M n = ((D.deed M).1, 10) := by
          unfold D.remove; rw [if_neg (by simp [hd]), h2]; show (if (D.deed M).2 = 0 then _ else _) = _; rw [if_neg (by omega), ← hv]
        rw [hv] at DL
        rw [hR]
        go_enter Try.func47, Try.ntmps47
        go_wp2_with (go_at_call 77; (with_reducible refine DL.out.mono ?_); rintro e w1 ⟨rfl, k1, s1⟩)
        go_ret
        exact ⟨rfl, ⟨mb, _, k1⟩, s1⟩
theorem heldTurn {w w' : World} {x : D.Ent} {mb : Nat} (h : HeldF w x) (ht : w.mapTurned w' mb) : HeldF w' x := by
  obtain ⟨es, clock, es', clock', hb, rfl⟩ := ht
  exact h.heap fun i cs t fz hi _ => heap_setBlock_other hb _ (ne_of_map hi hb)
theorem drp_len {l : List D.Fl} {n : List UInt8} {f : D.Fl} (h : D.fnd D.Fl.name n l = some f) : (D.drp D.Fl.name n l).length < l.length := by
  obtain ⟨h1, h2⟩ := D.fnd_mem _ h
  exact List.length_filter_lt_length_iff_exists.2 ⟨f, h1, by simp [h2]⟩
set_option maxRecDepth 100000 in
set_option maxHeartbeats 4000000 in
theorem rename_any {B : Nat} {w : World} {p : Nat} {M : D.Dk} (h : DkAt B w p M) (n m : List UInt8) (hn : n.length ≤ 9223372036854775807) (hm : m.length ≤ 9223372036854775807) :
    Calls Try.prog 48 #[.pointer (some ⟨p, 0, none⟩), .string ⟨n.toArray⟩, .string ⟨m.toArray⟩] w fun e w' => e = .returned (.int .i64 ((D.rename M n m).2 : Int)) ∧ DkAt B w' p (D.rename M n m).1 ∧ DStp B w w' := by
  obtain ⟨mb, Es, h⟩ := h
  have c1 := h.blk.cellv (i := 1) rfl
  have c3 := h.blk.cellv (i := 3) rfl
  have GG := Lib.hid (fun W => good_any m W)
  obtain ⟨fo, hlk0⟩ : ∃ v, v = ptrO ((D.fnd D.kE n Es).map Prod.snd) := ⟨_, rfl⟩
  have hlk := h.map.look n hn
  cases hd : M.dead with
  | true =>
    have hR : D.rename M n m = (M, 10) := by unfold D.rename; rw [if_pos hd]
    have DD := Lib.hid (deed_dead h hd)
    rw [hd] at c3
    rw [hR]
    rw [← hlk0] at hlk
    go_enter Try.func48, Try.ntmps48
    go_wp2_with (go_at_call 77; (with_reducible refine DD.out.mono ?_); rintro e w1 ⟨rfl, rfl⟩)
    go_ret
    exact ⟨rfl, ⟨mb, Es, h⟩, DStp.refl _ _⟩
  | false =>
    have DL := Lib.hid (deed_live h hd)
    rw [hd] at c3
    cases hg : D.good m with
    | false =>
      have hR : D.rename M n m = (M, 1) := by unfold D.rename; rw [if_neg (by simp [hd]), if_pos hg]
      rw [hg] at GG
      rw [hR]
      rw [← hlk0] at hlk
      go_enter Try.func48, Try.ntmps48
      go_wp2_with (go_at_call 76; (with_reducible refine (GG.out _).mono ?_); rintro e w1 ⟨rfl, rfl⟩)
      go_ret
      exact ⟨rfl, ⟨mb, Es, h⟩, DStp.refl _ _⟩
    | true =>
      have hm100 : m.length ≤ 100 := by unfold D.good at hg; simp at hg; exact hg.2
      rw [hg] at GG
      clear hlk hlk0
      rcases fnd_ent h.eq n with ⟨h1, h2⟩ | ⟨x, h1, h2⟩
      · have hR : D.rename M n m = (M, 7) := by unfold D.rename; rw [if_neg (by simp [hd]), if_neg (by simp [hg]), h2]
        have hlk := h.map.look_none hn h1
        rw [hR]
        go_enter Try.func48, Try.ntmps48
        go_wp2_with (go_at_call 76; (with_reducible refine (GG.out _).mono ?_); rintro e w1 ⟨rfl, rfl⟩)
        go_ret
        exact ⟨rfl, ⟨mb, Es, h⟩, DStp.refl _ _⟩
      · have hlk := h.map.look_some hn h1
        have hx := (D.fnd_mem _ h1).1
        have hxn : x.1.name = n := (D.fnd_mem _ h1).2
        rcases deed_vals M with hv | hv
        · have hR : D.rename M n m = ({ (D.deed M).1 with files := D.ins D.Fl.name { x.1 with name := m } (D.drp D.Fl.name m (D.drp D.Fl.name n (D.deed M).1.files)) }, 0) := by
            unfold D.rename; rw [if_neg (by simp [hd]), if_neg (by simp [hg]), h2, D.deed_files]; show (if (D.deed M).2 = 0 then _ else _) = _; rw [if_pos hv]
          rw [hv] at DL
          rw [hR]
          have hlen : (D.drp D.Fl.name n (D.deed M).1.files).length < 4096 := by
            rw [D.deed_files]
            exact Nat.lt_of_lt_of_le (drp_len h2) h.few
          have hlen2 : (D.drp D.Fl.name m (D.drp D.Fl.name n (D.deed M).1.files)).length < 4096 := Nat.lt_of_le_of_lt (List.length_filter_le _ _) hlen
          have hElen : (D.drp D.kE n Es).length < 4096 := by
            have e := D.drp_fst n Es
            have e2 := congrArg List.length e
            rw [List.length_map, h.eq, ← D.deed_files M] at e2
            omega
          have hap := h.apart
          clear h2 hR
          generalize (D.deed M).1 = M1 at *
          go_enter Try.func48, Try.ntmps48
          go_wp2_with (first | (go_at_call 76; (with_reducible refine (GG.out _).mono ?_); rintro e w1 ⟨rfl, rfl⟩) | (go_at_call 77; (with_reducible refine DL.out.mono ?_); rintro e w1 ⟨rfl, k1, s1⟩; have e1 := k1.blk.cellv (i := 1) rfl; have q1 := k1.held x hx) | (at_delete; refine wpList_delete_own _ rfl _ _ 124 9 rfl 127 lawK Try.underlying124 _ mb _ _ rfl k1.map _ _ rfl (keyS n hn) ?_; intro w2 hown2 ht2; have key := k1.del n ht2 hown2; have e2 := key.1.blk.cellv (i := 1) rfl; have q2 := heldTurn q1.2.1 ht2) | (at_mapUpdate; refine wpList_mapUpdate_in _ rfl _ _ _ 124 rfl 9 127 lawK Try.underlying124 _ mb _ _ rfl key.1.map (by unfold maxLen; omega) _ _ _ rfl rfl (keyS m hm) _ [] (ptrElem_mk x.2) ?_; intro w3 hown3 ht3; have key3 := key.1.add ({ x.1 with name := m }, x.2) ht3 hown3 ⟨q1.1, q2, q1.2.2.1, hm100⟩ (fun y hy e => by have h9 := (D.mem_drp D.kE).1 hy; exact h9.2 ((congrArg (fun z : D.Ent => z.1.name) (blks_uniq hap h9.1 hx e)).trans hxn)) hlen2))
          go_ret
          exact ⟨rfl, ⟨mb, _, key3.1⟩, (s1.trans key.2).trans key3.2⟩
        · have hR : D.rename M n m = ((D.deed M).1, 10) := by
            unfold D.rename; rw [if_neg (by simp [hd]), if_neg (by simp [hg]), h2]; show (if (D.deed M).2 = 0 then _ else _) = _; rw [if_neg (by omega), ← hv]
          rw [hv] at DL
          rw [hR]
          go_enter Try.func48, Try.ntmps48
          go_wp2_with (first | (go_at_call 76; (with_reducible refine (GG.out _).mono ?_); rintro e w1 ⟨rfl, rfl⟩) | (go_at_call 77; (with_reducible refine DL.out.mono ?_); rintro e w1 ⟨rfl, k1, s1⟩))
          go_ret
          exact ⟨rfl, ⟨mb, _, k1⟩, s1⟩
end Go.Proofs.Ytknkbioalohofaa
