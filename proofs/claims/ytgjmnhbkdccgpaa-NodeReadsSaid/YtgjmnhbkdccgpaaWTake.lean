/- The walks of code.Reader: take, fail, Number, Label, Done, and Open. -/
import Derived.Test.YtgjmnhbkdccgpaaKit3
import Derived.Test.YtgjmnhbkdccgpaaPureTake
import Derived.Test.YtgjmnhbkdccgpaaPureHex
namespace Go.Proofs.Ytgjmnhbkdccgpaa
open Go.RowKit

/-- A reader at block g, of the bytes s, in the state r. -/
structure Rst (W : World) (g : Nat) (s : List UInt8) (r : D.Rd) : Prop where
  blk : Blk W g #[.string ⟨s.toArray⟩, .int .i64 (r.loc : Int), .int .i64 (r.err : Int)] 159
  loc : r.loc ≤ s.length

theorem str_cut (s : List UInt8) (i n : Nat) (h : i + n ≤ s.length) (w : World) : (Instr.slice 9 (.string ⟨s.toArray⟩) (some (.int .i64 (i : Int))) (some (.int .i64 ((i : Int) + (n : Int)))) none).run Try.prog w = .ok (.string ⟨((s.drop i).take n).toArray⟩) w := by
  have hz : (⟨s.toArray⟩ : ByteArray).size = s.length := by simp [ByteArray.size]
  rw [run_slice_string w 9 _ .i64 .i64 (i : Int) ((i : Int) + (n : Int)) Try.underlying9 (by omega) (by omega) (by rw [hz]; omega)]
  congr 2
  rw [show ((i : Int)).toNat = i from by omega, show ((i : Int) + (n : Int)).toNat = i + n from by omega]
  apply ByteArray.ext
  rw [ByteArray.data_extract]
  simp [show i + n - i = n from by omega]
theorem Rst.drewN {W : World} {g : Nat} {s : List UInt8} {r : D.Rd} (h : Rst W g s r) (n : Nat) : Rst (W.drewN n) g s r := ⟨h.blk, h.loc⟩
theorem Rst.drew {W : World} {g : Nat} {s : List UInt8} {r : D.Rd} (h : Rst W g s r) : Rst W.drew g s r := ⟨h.blk, h.loc⟩
theorem only_drew {g : Nat} {w w' : World} (h : Only g w w') : Only g w w'.drew := ⟨h.os, h.tape, h.output, h.size, h.block⟩
theorem only_drewN {g : Nat} {w w' : World} (h : Only g w w') (n : Nat) : Only g w (w'.drewN n) := ⟨h.os, h.tape, h.output, h.size, h.block⟩
theorem only_refl (g : Nat) (w : World) : Only g w w := ⟨rfl, rfl, rfl, rfl, fun _ _ => rfl⟩

set_option maxHeartbeats 1000000 in
theorem take_any (s : List UInt8) (hs : s.length ≤ 4611686018427387904) (r : D.Rd) (n : Nat) (hn : n ≤ 4611686018427387904) (g : Nat) (w : World) (h : Rst w g s r) :
    Calls Try.prog 115 #[.pointer (some ⟨g, 0, none⟩), .int .i64 (n : Int)] w fun e w' => e = .returned (.string ⟨(D.take s r n).1.toArray⟩) ∧ Rst w' g s (D.take s r n).2 ∧ Only g w w' := by
  have c0 := h.blk.cellv (i := 0) rfl
  have c1 := h.blk.cellv (i := 1) rfl
  have c2 := h.blk.cellv (i := 2) rfl
  have f2 := h.blk.free 2
  have f1 := h.blk.free 1
  have hz : (⟨s.toArray⟩ : ByteArray).size = s.length := by simp [ByteArray.size]
  by_cases he : r.err = 0
  · by_cases hl : s.length - r.loc < n
    · have hres : D.take s r n = ([], ⟨r.loc, 5⟩) := by unfold D.take; rw [if_neg (by simpa using he), if_pos hl]
      have Hres := Lib.hid hres
      obtain ⟨k, hk⟩ : ∃ k : Nat, s.length = r.loc + k := ⟨s.length - r.loc, by have := h.loc; omega⟩
      have hb := h.blk
      have hloc2 := h.loc
      have hkn : k < n := by omega
      clear hres h hl
      generalize D.take s r n = T at Hres
      generalize hS : (⟨s.toArray⟩ : ByteArray) = S at *
      have HS := Lib.hid hS
      clear hS
      obtain ⟨loc, err⟩ := r
      simp only at *
      subst he
      have w1 : IntKind.i64.wrap ((S.size : Int) - (loc : Int)) = (k : Int) := by rw [hz, hk, IntWalk.i64_in _ (by omega)]; omega
      have d1 : decide ((k : Int) < (n : Int)) = true := by simp; omega
      clear hz hk hs
      go_enter Try.func115, Try.ntmps115
      go_wp2
      go_quiet (fail)
      go_wp2
      go_ret
      rw [Hres.out]
      have hb2 : Blk ((w.drewN nq).setCell ⟨g, 2, none⟩ (.int .i64 5)) g #[.string S, .int .i64 (loc : Int), .int .i64 5] 159 := (hb.drewN nq).set_ 2 (.int .i64 5)
      rw [← HS.out] at hb2
      exact ⟨rfl, ⟨hb2, hloc2⟩, (only_drewN (only_refl _ _) _).trans (Only.setCell _ _ _ _)⟩
    · have hres : D.take s r n = ((s.drop r.loc).take n, ⟨r.loc + n, 0⟩) := by unfold D.take; rw [if_neg (by simpa using he), if_neg hl]
      have Hres := Lib.hid hres
      have hcut := str_cut s r.loc n (by have := h.loc; omega)
      obtain ⟨k, hk⟩ : ∃ k : Nat, s.length = r.loc + n + k := ⟨s.length - r.loc - n, by have := h.loc; omega⟩
      have hb := h.blk
      have hloc2 : r.loc + n ≤ s.length := by have := h.loc; omega
      clear hres h
      generalize D.take s r n = T at Hres
      generalize hS : (⟨s.toArray⟩ : ByteArray) = S at *
      have HS := Lib.hid hS
      clear hS
      obtain ⟨loc, err⟩ := r
      simp only at *
      subst he
      have w1 : IntKind.i64.wrap ((S.size : Int) - (loc : Int)) = (n : Int) + (k : Int) := by rw [hz, hk, IntWalk.i64_in _ (by omega)]; omega
      have d1 : decide ((n : Int) + (k : Int) < (n : Int)) = false := by simp; omega
      have w2 : IntKind.i64.wrap ((loc : Int) + (n : Int) - (n : Int)) = (loc : Int) := by rw [IntWalk.i64_in _ (by omega)]; omega
      have b1 : (loc : Int) + (n : Int) ≤ 4611686018427387904 := by omega
      clear hz hk hs
      go_enter Try.func115, Try.ntmps115
      go_wp2
      go_quiet (fail)
      go_wp2
      go_quiet (fail)
      go_wp2
      go_ret
      rw [Hres.out]
      have hb2 : Blk ((w.drewN nq).setCell ⟨g, 1, none⟩ (.int .i64 ((loc : Int) + (n : Int)))) g #[.string S, .int .i64 ((loc : Int) + (n : Int)), .int .i64 0] 159 := (hb.drewN nq).set_ 1 (.int .i64 ((loc : Int) + (n : Int)))
      refine ⟨rfl, ⟨?_, hloc2⟩, ?_⟩
      · rw [← HS.out] at hb2
        show Blk _ g #[.string _, .int .i64 ((loc + n : Nat) : Int), .int .i64 ((0 : Nat) : Int)] _
        rw [Int.natCast_add]
        exact hb2
      · exact only_drewN ((only_drewN (only_refl _ _) _).trans (Only.setCell _ _ _ _)) _
  · have hres : D.take s r n = ([], r) := by unfold D.take; rw [if_pos he]
    have Hres := Lib.hid hres
    have d1 : ((r.err : Int) == 0) = false := by simpa using he
    have d2 : ((r.err : Int) != 0) = true := by simpa using he
    have hrst := h
    clear hres h hs hn
    generalize D.take s r n = T at Hres
    generalize hS : (⟨s.toArray⟩ : ByteArray) = S at *
    have HS := Lib.hid hS
    clear hS
    go_enter Try.func115, Try.ntmps115
    go_wp2
    go_quiet (fail)
    go_wp2
    go_ret
    rw [Hres.out]
    exact ⟨rfl, hrst.drewN _, only_drewN (only_refl _ _) _⟩
set_option maxHeartbeats 1000000 in
theorem rfail_any (s : List UInt8) (r : D.Rd) (n : Nat) (g : Nat) (w : World) (h : Rst w g s r) :
    Calls Try.prog 116 #[.pointer (some ⟨g, 0, none⟩), .int .i64 (n : Int)] w fun e w' => e = .returned (.tuple #[]) ∧ Rst w' g s (D.fail r n) ∧ Only g w w' := by
  have c2 := h.blk.cellv (i := 2) rfl
  have f2 := h.blk.free 2
  by_cases he : r.err = 0
  · have hres : D.fail r n = ⟨r.loc, n⟩ := by unfold D.fail; rw [if_pos he]
    have Hres := Lib.hid hres
    have hb := h.blk
    have hloc2 := h.loc
    clear hres h
    generalize D.fail r n = T at Hres
    obtain ⟨loc, err⟩ := r
    simp only at *
    subst he
    go_enter Try.func116, Try.ntmps116
    go_wp2
    go_end0
    rw [Hres.out]
    have hb2 : Blk (w.setCell ⟨g, 2, none⟩ (.int .i64 n)) g #[.string _, .int .i64 (loc : Int), .int .i64 n] 159 := hb.set_ 2 (.int .i64 n)
    exact ⟨rfl, ⟨hb2, hloc2⟩, Only.setCell _ _ _ _⟩
  · have hres : D.fail r n = r := by unfold D.fail; rw [if_neg he]
    have Hres := Lib.hid hres
    have d1 : ((r.err : Int) == 0) = false := by simpa using he
    clear hres
    generalize D.fail r n = T at Hres
    go_enter Try.func116, Try.ntmps116
    go_wp2
    go_end0
    rw [Hres.out]
    exact ⟨rfl, h, only_refl _ _⟩
set_option maxHeartbeats 1000000 in
theorem rdone_any (s : List UInt8) (r : D.Rd) (g : Nat) (w : World) (h : Rst w g s r) :
    Calls Try.prog 90 #[.pointer (some ⟨g, 0, none⟩)] w fun e w' => e = .returned (.int .i64 (D.done s r : Int)) ∧ ∃ n, w' = w.drewN n := by
  have c0 := h.blk.cellv (i := 0) rfl
  have c1 := h.blk.cellv (i := 1) rfl
  have c2 := h.blk.cellv (i := 2) rfl
  have hz : (⟨s.toArray⟩ : ByteArray).size = s.length := by simp [ByteArray.size]
  have Hd : Hid (D.done s r = if r.err = 0 ∧ r.loc < s.length then 3 else r.err) := Lib.hid rfl
  generalize D.done s r = T at Hd
  obtain ⟨loc, err⟩ := r
  simp only at *
  by_cases he : err = 0
  · subst he
    by_cases hl : loc < s.length
    · have d1 : decide ((loc : Int) < ((⟨s.toArray⟩ : ByteArray).size : Int)) = true := by rw [hz]; simp; omega
      have d2 : decide (loc < (⟨s.toArray⟩ : ByteArray).size) = true := by rw [hz]; simp; omega
      have HT := Lib.hid (Hd.out.trans (if_pos ⟨rfl, hl⟩))
      clear hz hl h Hd
      generalize (⟨s.toArray⟩ : ByteArray) = S at *
      go_enter Try.func90, Try.ntmps90
      go_wp2
      go_quiet (fail)
      go_wp2
      go_ret
      rw [HT.out]
      exact ⟨rfl, _, rfl⟩
    · have d1 : decide ((loc : Int) < ((⟨s.toArray⟩ : ByteArray).size : Int)) = false := by rw [hz]; simp; omega
      have d2 : decide (loc < (⟨s.toArray⟩ : ByteArray).size) = false := by rw [hz]; simp; omega
      have HT := Lib.hid (Hd.out.trans (if_neg (fun e => hl e.2)))
      clear hz hl h Hd
      generalize (⟨s.toArray⟩ : ByteArray) = S at *
      go_enter Try.func90, Try.ntmps90
      go_wp2
      go_quiet (fail)
      go_wp2
      go_ret
      rw [HT.out]
      exact ⟨rfl, _, rfl⟩
  · have d1 : ((err : Int) == 0) = false := by simpa using he
    have HT := Lib.hid (Hd.out.trans (if_neg (fun e => he e.1)))
    clear hz h Hd
    generalize (⟨s.toArray⟩ : ByteArray) = S at *
    go_enter Try.func90, Try.ntmps90
    go_wp2
    go_quiet (fail)
    go_wp2
    go_ret
    rw [HT.out]
    exact ⟨rfl, _, rfl⟩
set_option maxHeartbeats 1000000 in
theorem ropen_any (s : List UInt8) (hs : s.length ≤ 65536) (w : World) :
    Calls Try.prog 85 #[.string ⟨s.toArray⟩] w fun e w' => e = .returned (.pointer (some ⟨w.heap.size, 0, none⟩)) ∧ Rst w' w.heap.size s ⟨0, 0⟩ ∧ Below w.heap.size w w' ∧ w'.heap.size = w.heap.size + 1 := by
  have hz : (⟨s.toArray⟩ : ByteArray).size = s.length := by simp [ByteArray.size]
  have hs' := Int.ofNat_le.2 hs
  have d1 : decide ((65536 : Int) < ((⟨s.toArray⟩ : ByteArray).size : Int)) = false := by rw [hz]; simp; omega
  have d2 : decide (65536 < (⟨s.toArray⟩ : ByteArray).size) = false := by rw [hz]; simp; omega
  clear hz
  generalize hS : (⟨s.toArray⟩ : ByteArray) = S at *
  have HS := Lib.hid hS
  clear hS
  go_enter Try.func85, Try.ntmps85
  go_wp2
  go_ret
  refine ⟨rfl, ⟨?_, Nat.zero_le _⟩, below_alloc1 _ _, by simp⟩
  rw [HS.out]
  exact Blk.new _ _ _
end Go.Proofs.Ytgjmnhbkdccgpaa
