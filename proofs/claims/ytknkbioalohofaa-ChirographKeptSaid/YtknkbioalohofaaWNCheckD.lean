/- The walk of name.Check. -/
import Derived.Test.YtknkbioalohofaaIterD
namespace Go.Proofs.Ytknkbioalohofaa
open Go.RowKit

namespace N
def bad (c : Nat) (last : Nat) : Bool := kind c == 0 || (kind c == 3 && last == 3) || great c
def chk : List (Nat × Nat × Nat) → Nat → Nat → Nat → Nat × Nat
  | [], _, last, len => if last = 3 then (len, 3) else (0, 0)
  | r :: t, n, last, len => if r.1 = 65533 then (r.2.1, 4) else if 40 ≤ n then (r.2.1, 2) else if bad r.1 last = true then (r.2.1, 3) else chk t (n + 1) (kind r.1) len
def check (s : List UInt8) : Nat × Nat := if s = [] then (0, 5) else chk (runes s) 0 3 s.length
theorem kind_le (c : Int) : kind c ≤ 3 := by unfold kind; repeat' split
                                             all_goals omega
theorem small_ne (c : Int) : (small c != c) = great c := by
  unfold small
  split
  · rename_i h; rw [h, bne_iff_ne]; omega
  · rename_i h; simp at h; rw [h]; simp
end N
set_option maxRecDepth 100000 in
set_option maxHeartbeats 4000000 in
theorem ncheck_any (s : List UInt8) (w : World) (hs : s.length ≤ 35184372088832) :
    Calls Try.prog 66 #[.string ⟨s.toArray⟩] w fun e w' => e = .returned (.tuple #[.int .i64 ((N.check s).1 : Int), .int .i64 ((N.check s).2 : Int)]) ∧ Below w.heap.size w w' := by
  by_cases hnil : s = []
  · subst hnil
    go_enter Try.func66, Try.ntmps66
    go_wp2
    go_ret2
    exact ⟨rfl, Below.refl _ _⟩
  have hne : s.isEmpty = false := by simpa using hnil
  have h0 := It.start w s
  have hb0 := below_iter0 w ⟨s.toArray⟩
  have hck : N.chk (N.rest s 0) 0 3 s.length = N.check s := by rw [N.check, if_neg hnil]; rfl
  generalize hC : N.check s = C at *
  clear hC hnil
  have Hck := Lib.hid hck
  clear hck
  have hz := str_size s
  go_enter Try.func66, Try.ntmps66
  go_wp2
  go_loopw [4, 5] (fun a b wr => ∃ p r last : Nat, a = .int .i64 (r : Int) ∧ b = .int .i64 (last : Int) ∧ p ≤ s.length ∧ r ≤ 40 ∧ last ≤ 3 ∧ It wr w.heap.size s p ∧ N.chk (N.rest s p) r last s.length = C ∧ Below w.heap.size w wr) (fun _ _ wr => s.length - wr.iterPos w.heap.size)
  case atStart => exact ⟨0, 0, 3, rfl, rfl, by omega, by omega, by omega, h0, Hck.out, hb0⟩
  case round =>
    clear h0 hb0 Hck hne
    obtain ⟨p, r, last, rfl, rfl, hp, hr40, hl3, hit, hch, hB⟩ := hrel
    by_cases hlt : p < s.length
    · have hnx := fun ty => hit.next hlt ty
      have hn := N.rest_next s p hlt
      have hst := N.step_le s p hlt
      have hit2 := hit.move (p + (N.rn (s.drop p)).2)
      have hB2 := Lib.below_iterAt hB (Nat.le_refl _) ⟨s.toArray⟩ (p + (N.rn (s.drop p)).2)
      have hpos := Lib.hid hit.pos
      have hcl := N.rn_lt (s.drop p)
      rw [hn, N.chk] at hch
      dsimp only at hch
      have Hst := Lib.hid hst
      have hpb : (p : Int) ≤ 35184372088832 := by omega
      clear hn hit hst hlt
      generalize (N.rn (s.drop p)).1 = c at *
      generalize hq : p + (N.rn (s.drop p)).2 = q at *
      clear hq
      generalize wr.iterAt w.heap.size ⟨s.toArray⟩ q = wq at *
      by_cases c1 : c = 65533
      · have d1 : (((c : Nat) : Int) == 65533) = true := by simp; omega
        rw [if_pos c1] at hch
        have Hch := Lib.hid hch
        clear hch c1
        go_wp2
        go_ret2
        rw [← Hch.out]
        exact ⟨rfl, hB2⟩
      have d1 : (((c : Nat) : Int) == 65533) = false := by simp; omega
      rw [if_neg c1] at hch
      clear c1
      have hk3 := N.kind_le (c : Int)
      have KC := Lib.hid (fun W => kind_any (c : Int) W)
      have SC := Lib.hid (fun W => small_any (c : Int) W)
      by_cases c2 : 40 ≤ r
      · have d2 : decide ((40 : Int) ≤ (r : Int)) = true := by simp; omega
        rw [if_pos c2] at hch
        have Hch := Lib.hid hch
        clear hch c2
        generalize hkk : N.kind (c : Int) = kk at *
        go_wp2_with (go_at_call 89; with_reducible refine (KC.out _).mono ?_; rintro e w1 ⟨rfl, hb1⟩)
        go_ret2
        rw [← Hch.out]
        exact ⟨rfl, hB2.trans (hb1.mono hB2.size)⟩
      have d2 : decide ((40 : Int) ≤ (r : Int)) = false := by simp; omega
      rw [if_neg c2] at hch
      have hr39 : (r : Int) ≤ 39 := by omega
      have Hr := Lib.hid (show r + 1 ≤ 40 by omega)
      clear c2
      have hbad : N.bad c last = (N.kind c == 0 || (N.kind c == 3 && last == 3) || N.great c) := rfl
      have hsm := N.small_ne (c : Int)
      generalize N.kind (c : Int) = kk at *
      by_cases c3 : kk = 0
      · have d3 : (((kk : Nat) : Int) == 0) = true := by simp; omega
        rw [if_pos (by rw [hbad, c3]; rfl)] at hch
        have Hch := Lib.hid hch
        clear hch c3 hbad
        go_wp2_with (go_at_call 89; with_reducible refine (KC.out _).mono ?_; rintro e w1 ⟨rfl, hb1⟩)
        go_ret2
        rw [← Hch.out]
        exact ⟨rfl, hB2.trans (hb1.mono hB2.size)⟩
      have d3 : (((kk : Nat) : Int) == 0) = false := by simp; omega
      have b3 : (kk == 0) = false := by simpa using c3
      rw [b3, Bool.false_or] at hbad
      clear c3
      by_cases c4 : kk = 3
      · have d4 : (((kk : Nat) : Int) == 3) = true := by simp; omega
        have b4 : (kk == 3) = true := by simpa using c4
        rw [b4, Bool.true_and] at hbad
        clear c4
        by_cases c5 : last = 3
        · have d5 : (((last : Nat) : Int) == 3) = true := by simp; omega
          rw [if_pos (by rw [hbad, c5]; rfl)] at hch
          have Hch := Lib.hid hch
          clear hch c5 hbad b3 b4
          go_wp2_with (go_at_call 89; with_reducible refine (KC.out _).mono ?_; rintro e w1 ⟨rfl, hb1⟩)
          go_ret2
          rw [← Hch.out]
          exact ⟨rfl, hB2.trans (hb1.mono hB2.size)⟩
        have d5 : (((last : Nat) : Int) == 3) = false := by simp; omega
        have b5 : (last == 3) = false := by simpa using c5
        rw [b5, Bool.false_or] at hbad
        clear c5 b3 b4 b5
        by_cases c6 : N.great c = true
        · rw [if_pos (by rw [hbad]; exact c6)] at hch
          rw [c6] at hsm
          have Hch := Lib.hid hch
          clear hch c6 hbad
          generalize N.small (c : Int) = sm at *
          go_wp2_with (first | (go_at_call 89; with_reducible refine (KC.out _).mono ?_; rintro e w1 ⟨rfl, hb1⟩) | (go_at_call 90; with_reducible refine (SC.out _).mono ?_; rintro e w2 ⟨rfl, hb2⟩))
          go_ret2
          rw [← Hch.out]
          exact ⟨rfl, (hB2.trans (hb1.mono hB2.size)).trans (hb2.mono (Nat.le_trans hB2.size hb1.size))⟩
        · have c6 : N.great c = false := by simpa using c6
          rw [if_neg (by rw [hbad, c6]; simp)] at hch
          rw [c6] at hsm
          have Hch := Lib.hid hch
          clear hch c6 hbad
          generalize N.small (c : Int) = sm at *
          go_wp2_with (first | (go_at_call 89; with_reducible refine (KC.out _).mono ?_; rintro e w1 ⟨rfl, hb1⟩) | (go_at_call 90; with_reducible refine (SC.out _).mono ?_; rintro e w2 ⟨rfl, hb2⟩))
          have hit3 := (hit2.at_ hb1).at_ hb2
          have hpos2 := Lib.hid hit3.pos
          go_roundw
          case rel => exact ⟨q, r + 1, kk, by go_num, rfl, Hst.out.1, Hr.out, hk3, hit3, Hch.out, (hB2.trans (hb1.mono hB2.size)).trans (hb2.mono (Nat.le_trans hB2.size hb1.size))⟩
          case measure => rw [hpos.out, hpos2.out]; have := Hst.out; omega
      have d4 : (((kk : Nat) : Int) == 3) = false := by simp; omega
      have b4 : (kk == 3) = false := by simpa using c4
      rw [b4, Bool.false_and, Bool.false_or] at hbad
      clear c4 b3 b4
      by_cases c6 : N.great c = true
      · rw [if_pos (by rw [hbad]; exact c6)] at hch
        rw [c6] at hsm
        have Hch := Lib.hid hch
        clear hch c6 hbad
        generalize N.small (c : Int) = sm at *
        go_wp2_with (first | (go_at_call 89; with_reducible refine (KC.out _).mono ?_; rintro e w1 ⟨rfl, hb1⟩) | (go_at_call 90; with_reducible refine (SC.out _).mono ?_; rintro e w2 ⟨rfl, hb2⟩))
        go_ret2
        rw [← Hch.out]
        exact ⟨rfl, (hB2.trans (hb1.mono hB2.size)).trans (hb2.mono (Nat.le_trans hB2.size hb1.size))⟩
      · have c6 : N.great c = false := by simpa using c6
        rw [if_neg (by rw [hbad, c6]; simp)] at hch
        rw [c6] at hsm
        have Hch := Lib.hid hch
        clear hch c6 hbad
        generalize N.small (c : Int) = sm at *
        go_wp2_with (first | (go_at_call 89; with_reducible refine (KC.out _).mono ?_; rintro e w1 ⟨rfl, hb1⟩) | (go_at_call 90; with_reducible refine (SC.out _).mono ?_; rintro e w2 ⟨rfl, hb2⟩))
        have hit3 := (hit2.at_ hb1).at_ hb2
        have hpos2 := Lib.hid hit3.pos
        go_roundw
        case rel => exact ⟨q, r + 1, kk, by go_num, rfl, Hst.out.1, Hr.out, hk3, hit3, Hch.out, (hB2.trans (hb1.mono hB2.size)).trans (hb2.mono (Nat.le_trans hB2.size hb1.size))⟩
        case measure => rw [hpos.out, hpos2.out]; have := Hst.out; omega
    · have hnx := fun ty => hit.stop hlt ty
      have hn := N.rest_end s p hlt
      rw [hn, N.chk] at hch
      clear hn hit hlt
      by_cases c5 : last = 3
      · have d5 : (((last : Nat) : Int) == 3) = true := by simp; omega
        rw [if_pos c5] at hch
        have Hch := Lib.hid hch
        clear hch c5
        go_wp2
        go_ret2
        rw [← Hch.out]
        exact ⟨rfl, hB⟩
      · have d5 : (((last : Nat) : Int) == 3) = false := by simp; omega
        rw [if_neg c5] at hch
        have Hch := Lib.hid hch
        clear hch c5
        go_wp2
        go_ret2
        rw [← Hch.out]
        exact ⟨rfl, hB⟩
end Go.Proofs.Ytknkbioalohofaa
