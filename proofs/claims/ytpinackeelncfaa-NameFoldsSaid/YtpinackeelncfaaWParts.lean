/- The walk of name.Parts. -/
import Derived.Test.YtpinackeelncfaaWFold
namespace Go.Proofs.Ytpinackeelncfaa
open Go.RowKit

namespace N
def partsGo (s : List UInt8) : List (Nat × Nat × Nat) → Nat → List (List UInt8)
  | [], fr => [s.drop fr]
  | r :: t, fr => if kind r.1 = 3 then (s.drop fr).take (r.2.1 - fr) :: partsGo s t (r.2.1 + 1) else partsGo s t fr
def parts (s : List UInt8) : List (List UInt8) := partsGo s (runes s) 0
theorem rnc_small (b0 b1 b2 b3 n : Nat) : 128 ≤ (rnc b0 b1 b2 b3 n).1 ∨ (rnc b0 b1 b2 b3 n).2 = 1 := by
  unfold rnc
  repeat' split
  all_goals first | exact .inr rfl | (left; simp only; omega)
theorem rn_small (l : List UInt8) (h : (rn l).1 < 128) : (rn l).2 = 1 := by
  have h2 : 128 ≤ (rn l).1 ∨ (rn l).2 = 1 := rnc_small ..
  omega
theorem kind_joint {c : Int} (h : kind c = 3) : 43 ≤ c ∧ c ≤ 95 := by
  unfold kind at h
  split at h
  · omega
  · split at h
    · omega
    · split at h
      · rename_i hj
        simp [joint] at hj
        omega
      · omega
end N
set_option maxRecDepth 100000 in
theorem runeLen_any (c : Int) (h0 : 43 ≤ c) (h1 : c ≤ 95) (w : World) : Calls Try.prog 24 #[.int .i32 c] w fun e w' => e = .returned (.int .i64 1) ∧ w = w' := by
  go_enter Try.func24, Try.ntmps24
  have d1 : decide (c < 0) = false := by simp; omega
  have d2 : decide (c ≤ 127) = true := by simp; omega
  go_wp2
  go_ret
  exact ⟨rfl, rfl⟩
set_option maxRecDepth 100000 in
set_option maxHeartbeats 2000000 in
theorem parts_any (s : List UInt8) (w : World) (hs : s.length ≤ 1000000000000) :
    Calls Try.prog 15 #[.string ⟨s.toArray⟩] w fun e w' => ∃ v, e = .returned v ∧ Row1 w' 9 v ((N.parts s).map strV) ∧ Below w.heap.size w w' := by
  have h0 := It.start w s
  have hb0 := below_iter0 w ⟨s.toArray⟩
  have hT : N.partsGo s (N.rest s 0) 0 = N.parts s := rfl
  generalize N.parts s = T at *
  have HT := Lib.hid hT
  clear hT
  have hz := str_size s
  go_enter Try.func15, Try.ntmps15
  go_wp2
  go_loopw [3, 4] (fun v f wr => ∃ (p fr : Nat) (acc : List (List UInt8)) (vl : Value), vl = v ∧ f = .int .i64 (fr : Int) ∧ fr ≤ p ∧ p ≤ s.length ∧ It wr w.heap.size s p ∧ Row1 wr 9 vl (acc.map strV) ∧ (vl.ownBlock = none ∨ ∃ k, w.heap.size ≤ k ∧ vl.ownBlock = some k) ∧ acc ++ N.partsGo s (N.rest s p) fr = T ∧ acc.length ≤ p ∧ Below w.heap.size w wr) (fun _ _ wr => s.length - wr.iterPos w.heap.size)
  case atStart => exact ⟨0, 0, [], _, rfl, rfl, by omega, by omega, h0, Row1.nil _ _, .inl rfl, HT.out, by simp, hb0⟩
  case round =>
    clear h0 hb0 HT
    obtain ⟨p, fr, acc, vl, rfl, rfl, hfr, hp, hit, hrow, hown, hns, hnl, hB⟩ := hrel
    by_cases hlt : p < s.length
    · have hnx := fun ty => hit.next hlt ty
      have hn := N.rest_next s p hlt
      have hst := N.step_le s p hlt
      have hsm := N.rn_small (s.drop p)
      have hit2 := hit.move (p + (N.rn (s.drop p)).2)
      have hrow1 := hrow.iterAt (q := p + (N.rn (s.drop p)).2) hit
      have hB2 := Lib.below_iterAt hB (Nat.le_refl _) ⟨s.toArray⟩ (p + (N.rn (s.drop p)).2)
      have hpos := Lib.hid hit.pos
      rw [hn, N.partsGo] at hns
      dsimp only at hns
      have KC := Lib.hid (fun W => kind_any ((N.rn (s.drop p)).1 : Int) W)
      have hjt := @N.kind_joint ((N.rn (s.drop p)).1 : Int)
      clear hn hit hrow
      generalize (N.rn (s.drop p)).1 = c at *
      generalize (N.rn (s.drop p)).2 = z at *
      have Hst := Lib.hid hst
      clear hst
      have hpb : (p : Int) ≤ 1000000000000 := by omega
      have hp0 : (0 : Int) ≤ (p : Int) := by omega
      by_cases c3 : N.kind (c : Int) = 3
      · obtain ⟨j1, j2⟩ := hjt c3
        have hz1 : z = 1 := hsm (by omega)
        have RL := Lib.hid (fun W => runeLen_any (c : Int) j1 j2 W)
        rw [if_pos c3] at hns
        rw [c3] at KC
        have hmid := str_mid_ s fr p (fr : Int) (p : Int) rfl rfl hfr hp
        have hlen : ((acc.map strV).length + 1) * 16 ≤ 140737488355328 := by rw [List.length_map]; omega
        have Hns := Lib.hid hns
        have Hz := Lib.hid hz1
        clear hns hjt hsm c3 hz1
        generalize (s.drop fr).take (p - fr) = t at *
        generalize hq : p + z = q at *
        have Hq := Lib.hid hq
        clear hq
        generalize wr.iterAt w.heap.size ⟨s.toArray⟩ q = wq at *
        rw [show ((3 : Nat) : Int) = 3 from rfl] at KC
        go_wp2_with (first | (go_at_call 12; with_reducible refine (KC.out _).mono ?_; rintro e w1 ⟨rfl, hb1⟩) | (go_at_call 24; with_reducible refine (RL.out _).mono ?_; rintro e w9 ⟨rfl, rfl⟩) | (at_builtin; refine wpList_append_row rfl info_str (.tmp 16) (.tmp 21) 35 rfl Try.underlying35 rfl ((hrow1.at_ hb1).alloc _) ⟨w1.heap.size, 0, none⟩ 1 1 [strV t] rfl rfl (new_cells _ _ _ rfl _) (str_one [t]) hlen ?_; intro v1 w2 hrow2 hg2 hr2))
        have hB1 := (hB2.trans (hb1.mono hB2.size)).alloc (o := .cells #[strV t] 9) (Nat.le_trans hB2.size hb1.size)
        have hs1 : w.heap.size ≤ (w1.alloc (.cells #[strV t] 9)).heap.size := by have := hB2.size; have := hb1.size; simp; omega
        have hB3 := below_grown_own hB1 hs1 hg2 hown
        have hown2 := own_later hown hs1 hr2
        have hit3 := (hit2.at_ hb1).grown (hrow1.at_ hb1) _ hg2
        rw [show acc.map strV ++ [strV t] = (acc ++ [t]).map strV by simp] at hrow2
        have hpos2 := Lib.hid hit3.pos
        go_roundw
        case rel => exact ⟨q, p + 1, acc ++ [t], _, rfl, by go_num, by have := Hst.out; omega, by have := Hst.out; have := Hq.out; omega, hit3, hrow2, hown2, by rw [List.append_assoc]; exact Hns.out, by have := Hst.out; have := Hq.out; simp; omega, hB3⟩
        case measure => rw [hpos.out, hpos2.out]; have := Hst.out; have := Hq.out; omega
      · rw [if_neg c3] at hns
        have d3 : (((N.kind (c : Int)) : Int) == 3) = false := by simp; omega
        have Hns := Lib.hid hns
        clear hns hjt hsm c3
        generalize N.kind (c : Int) = kk at *
        generalize hq : p + z = q at *
        have Hq := Lib.hid hq
        clear hq
        generalize wr.iterAt w.heap.size ⟨s.toArray⟩ q = wq at *
        go_wp2_with (go_at_call 12; with_reducible refine (KC.out _).mono ?_; rintro e w1 ⟨rfl, hb1⟩)
        have hit3 := hit2.at_ hb1
        have hpos2 := Lib.hid hit3.pos
        go_roundw
        case rel => exact ⟨q, fr, acc, _, rfl, rfl, by have := Hst.out; have := Hq.out; omega, by have := Hst.out; have := Hq.out; omega, hit3, hrow1.at_ hb1, hown, Hns.out, by have := Hst.out; have := Hq.out; omega, hB2.trans (hb1.mono hB2.size)⟩
        case measure => rw [hpos.out, hpos2.out]; have := Hst.out; have := Hq.out; omega
    · have hnx := fun ty => hit.stop hlt ty
      have hn := N.rest_end s p hlt
      rw [hn, N.partsGo] at hns
      have hfrom := str_from_ s fr (fr : Int) rfl (by omega)
      have hlen : ((acc.map strV).length + 1) * 16 ≤ 140737488355328 := by rw [List.length_map]; omega
      have Hns := Lib.hid hns
      clear hn hns hlt
      generalize s.drop fr = t at *
      go_wp2_with (at_builtin; refine wpList_append_row rfl info_str (.tmp 27) (.tmp 31) 35 rfl Try.underlying35 rfl (hrow.alloc _) ⟨wr.heap.size, 0, none⟩ 1 1 [strV t] rfl rfl (new_cells _ _ _ rfl _) (str_one [t]) hlen ?_; intro v1 w2 hrow2 hg2 hr2)
      go_ret
      have hB1 := hB.alloc (o := .cells #[strV t] 9) hB.size
      have hs1 : w.heap.size ≤ (wr.alloc (.cells #[strV t] 9)).heap.size := by have := hB.size; simp; omega
      have hB3 := below_grown_own hB1 hs1 hg2 hown
      rw [show acc.map strV ++ [strV t] = (acc ++ [t]).map strV by simp, Hns.out] at hrow2
      exact ⟨_, rfl, hrow2, hB3⟩
end Go.Proofs.Ytpinackeelncfaa
