/- The walks of the disk's calls that write no bytes: Read, Dead, Arm, Sync, Remove, Rename. -/
import Derived.Test.YtknkbioalohofaaDkB
namespace Go.Proofs.Ytknkbioalohofaa
open Go.RowKit Go.Maps Go.ChangeMaps Go.MapKept Go.WideMaps

theorem fnd_ent {Es : List D.Ent} {M : D.Dk} (heq : Es.map Prod.fst = M.files) (n : List UInt8) : (D.fnd D.kE n Es = none ∧ D.fnd D.Fl.name n M.files = none) ∨ ∃ x, D.fnd D.kE n Es = some x ∧ D.fnd D.Fl.name n M.files = some x.1 := by
  have := D.fnd_fst n Es
  rw [heq] at this
  cases h : D.fnd D.kE n Es with
  | none => rw [h] at this; exact .inl ⟨rfl, this.symm⟩
  | some x => rw [h] at this; exact .inr ⟨x, rfl, this.symm⟩
theorem eql_nilp (p : Option Addr) (w : World) : (binOp .eql 127 (.pointer p) (.pointer none)).run Try.prog w = .ok (.bool p.isNone) w := by
  cases p <;> kernel_rfl

theorem Buf.shape {w : World} {v : Value} {xs : List UInt8} (h : Buf w v xs) : ∃ A cap, v = .slice A xs.length cap := by
  rcases h.2 with ⟨rfl, h0⟩ | ⟨g, cap, cur, rfl, _⟩
  · exact ⟨none, 0, by rw [h0]⟩
  · exact ⟨_, _, rfl⟩
set_option maxHeartbeats 1000000 in
theorem read_any {B : Nat} {w : World} {p : Nat} {M : D.Dk} (h : DkAt B w p M) (n : List UInt8) (hn : n.length ≤ 9223372036854775807) :
    Calls Try.prog 43 #[.pointer (some ⟨p, 0, none⟩), .string ⟨n.toArray⟩] w fun e w' => e = .returned (.tuple #[.string ⟨(D.read M n).1.toArray⟩, .int .i64 ((D.read M n).2 : Int)]) ∧ w' = w := by
  obtain ⟨mb, Es, h⟩ := h
  have c1 := h.blk.cellv (i := 1) rfl
  have c3 := h.blk.cellv (i := 3) rfl
  cases hd : M.dead with
  | true =>
    have hR : D.read M n = ([], 10) := by unfold D.read; rw [if_pos hd]
    rw [hd] at c3
    rw [hR]
    go_enter Try.func43, Try.ntmps43
    go_wp2
    go_ret2
    exact ⟨rfl, rfl⟩
  | false =>
    rw [hd] at c3
    rcases fnd_ent h.eq n with ⟨h1, h2⟩ | ⟨x, h1, h2⟩
    · have hR : D.read M n = ([], 7) := by unfold D.read; rw [if_neg (by simp [hd]), h2]
      have hlk := h.map.look_none hn h1
      rw [hR]
      go_enter Try.func43, Try.ntmps43
      go_wp2
      go_ret2
      exact ⟨rfl, rfl⟩
    · have hR : D.read M n = (x.1.b, 0) := by unfold D.read; rw [if_neg (by simp [hd]), h2]
      have hlk := h.map.look_some hn h1
      obtain ⟨_, ⟨v, hb, hbuf⟩, -, -⟩ := h.held x (D.fnd_mem _ h1).1
      have c0 := hb.cellv (i := 0) rfl
      have hcv := hbuf.string (src := 41) (dst := 9) Try.underlying41 Try.underlying9
      rw [hR]
      clear hbuf
      go_enter Try.func43, Try.ntmps43
      go_wp2
      go_ret2
      exact ⟨rfl, rfl⟩
set_option maxHeartbeats 1000000 in
theorem dead_any {B : Nat} {w : World} {p : Nat} {M : D.Dk} (h : DkAt B w p M) :
    Calls Try.prog 44 #[.pointer (some ⟨p, 0, none⟩)] w fun e w' => e = .returned (.bool M.dead) ∧ w' = w := by
  obtain ⟨mb, Es, h⟩ := h
  have c3 := h.blk.cellv (i := 3) rfl
  generalize M.dead = d at *
  go_enter Try.func44, Try.ntmps44
  go_wp2
  go_ret
  exact ⟨rfl, rfl⟩
set_option maxHeartbeats 1000000 in
theorem arm_any {B : Nat} {w : World} {p : Nat} {M : D.Dk} (h : DkAt B w p M) (n : Int) (hn : -9223372036854775808 ≤ n ∧ n < 9223372036854775808) :
    Calls Try.prog 40 #[.pointer (some ⟨p, 0, none⟩), .int .i64 n] w fun e w' => e = .returned (.tuple #[]) ∧ DkAt B w' p (D.arm M n) ∧ DStp B w w' := by
  obtain ⟨mb, Es, h⟩ := h
  have c2 := h.blk.cellv (i := 2) rfl
  have c3 := h.blk.cellv (i := 3) rfl
  have f2 := h.blk.free 2
  cases hd : M.dead with
  | true =>
    have hR : D.arm M n = M := by unfold D.arm; rw [if_pos hd]
    rw [hd] at c3
    rw [hR]
    go_enter Try.func40, Try.ntmps40
    go_wp2
    go_end0
    exact ⟨rfl, ⟨mb, Es, h⟩, DStp.refl _ _⟩
  | false =>
    have hR : D.arm M n = { M with fuse := max n (-1) } := by unfold D.arm; rw [if_neg (by simp [hd])]
    rw [hd] at c3
    rw [hR]
    have key := h.setDisk (Only.setCell w p 2 (.int .i64 (max n (-1)))) { M with fuse := max n (-1) } (h.blk.set_ 2 (.int .i64 (max n (-1)))) rfl rfl ⟨by show -1 ≤ max n (-1); omega, by show max n (-1) < _; omega⟩
    go_enter Try.func40, Try.ntmps40
    go_wp2
    go_end0
    exact ⟨rfl, ⟨mb, Es, key.1⟩, key.2⟩
theorem deed_vals (M : D.Dk) : (D.deed M).2 = 0 ∨ (D.deed M).2 = 10 := by unfold D.deed; split; exact .inr rfl; split <;> exact .inl rfl
set_option maxRecDepth 100000 in
set_option maxHeartbeats 2000000 in
theorem sync_any {B : Nat} {w : World} {p : Nat} {M : D.Dk} (h : DkAt B w p M) (n : List UInt8) (hn : n.length ≤ 9223372036854775807) :
    Calls Try.prog 39 #[.pointer (some ⟨p, 0, none⟩), .string ⟨n.toArray⟩] w fun e w' => e = .returned (.int .i64 ((D.sync M n).2 : Int)) ∧ DkAt B w' p (D.sync M n).1 ∧ DStp B w w' := by
  obtain ⟨mb, Es, h⟩ := h
  have c1 := h.blk.cellv (i := 1) rfl
  have c3 := h.blk.cellv (i := 3) rfl
  cases hd : M.dead with
  | true =>
    have hR : D.sync M n = (M, 10) := by unfold D.sync; rw [if_pos hd]
    have DD := Lib.hid (deed_dead h hd)
    rw [hd] at c3
    rw [hR]
    rcases fnd_ent h.eq n with ⟨h1, h2⟩ | ⟨x, h1, h2⟩
    · have hlk := h.map.look_none hn h1
      go_enter Try.func39, Try.ntmps39
      go_wp2_with (go_at_call 77; (with_reducible refine DD.out.mono ?_); rintro e w1 ⟨rfl, rfl⟩)
      go_ret
      exact ⟨rfl, ⟨mb, Es, h⟩, DStp.refl _ _⟩
    · have hlk := h.map.look_some hn h1
      go_enter Try.func39, Try.ntmps39
      go_wp2_with (go_at_call 77; (with_reducible refine DD.out.mono ?_); rintro e w1 ⟨rfl, rfl⟩)
      go_ret
      exact ⟨rfl, ⟨mb, Es, h⟩, DStp.refl _ _⟩
  | false =>
    have DL := Lib.hid (deed_live h hd)
    rw [hd] at c3
    rcases fnd_ent h.eq n with ⟨h1, h2⟩ | ⟨x, h1, h2⟩
    · have hR : D.sync M n = (M, 7) := by unfold D.sync; rw [if_neg (by simp [hd]), h2]
      have hlk := h.map.look_none hn h1
      rw [hR]
      go_enter Try.func39, Try.ntmps39
      go_wp2_with (go_at_call 77; fail)
      go_ret
      exact ⟨rfl, ⟨mb, Es, h⟩, DStp.refl _ _⟩
    · have hlk := h.map.look_some hn h1
      have hx := (D.fnd_mem _ h1).1
      have hxn : x.1.name = n := (D.fnd_mem _ h1).2
      rcases deed_vals M with hv | hv
      · have hR : D.sync M n = ({ (D.deed M).1 with files := D.upd D.Fl.name n (fun f => { f with sure := f.b.length }) (D.deed M).1.files }, 0) := by
          unfold D.sync; rw [if_neg (by simp [hd]), h2, D.deed_files]; show (if (D.deed M).2 = 0 then _ else _) = _; rw [if_pos hv]
        rw [hv] at DL
        rw [hR]
        clear h2 hR
        generalize (D.deed M).1 = M1 at *
        go_enter Try.func39, Try.ntmps39
        go_wp2_with (go_at_call 77; (with_reducible refine DL.out.mono ?_); rintro e w1 ⟨rfl, k1, s1⟩; obtain ⟨hB, ⟨v, hb, hbuf⟩, hsu, -⟩ := k1.held x hx; have c0 := hb.cellv (i := 0) rfl; have f1 := hb.free 1; have c01 := hb.cellv (i := 1) rfl; have key := k1.setFile hx (Only.setCell w1 x.2 1 (.int .i64 (x.1.b.length : Int))) (hb.set_ 1 (.int .i64 (x.1.b.length : Int))) (hbuf.dstp (DStp.only hb (.inr rfl) (Only.setCell w1 x.2 1 (.int .i64 (x.1.b.length : Int))) hB)) (fun f => { f with sure := f.b.length }) rfl (fun _ => rfl) (Nat.le_refl _); obtain ⟨A, cp, rfl⟩ := hbuf.shape; clear hbuf)
        go_ret
        rw [hxn] at key
        exact ⟨rfl, ⟨mb, _, key.1⟩, s1.trans key.2⟩
      · have hR : D.sync M n = ((D.deed M).1, 10) := by
          unfold D.sync; rw [if_neg (by simp [hd]), h2]; show (if (D.deed M).2 = 0 then _ else _) = _; rw [if_neg (by omega), ← hv]
        rw [hv] at DL
        rw [hR]
        go_enter Try.func39, Try.ntmps39
        go_wp2_with (go_at_call 77; (with_reducible refine DL.out.mono ?_); rintro e w1 ⟨rfl, k1, s1⟩)
        go_ret
        exact ⟨rfl, ⟨mb, _, k1⟩, s1⟩
end Go.Proofs.Ytknkbioalohofaa
