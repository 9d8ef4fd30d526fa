/- The walk of the reference's Parts. -/
import Derived.Test.YtpinackeelncfaaWRRunes
import Derived.Test.YtpinackeelncfaaWParts
namespace Go.Proofs.Ytpinackeelncfaa
open Go.RowKit

theorem RunesAt.grown {w w' : World} {g : Nat} {l : List (Nat × Nat × Nat)} {row : Option Nat} (h : RunesAt w g l) (hg : w.grownBy w' row) (hr : row ≠ some g) : RunesAt w' g l :=
  ⟨Nat.lt_of_lt_of_le h.1 hg.size, fun j r hj i v hi => hg.cell (h.2 j r hj i v hi) (Ne.symm hr)⟩
theorem own_other {v v' : Value} {w : World} {g : Nat} (h : v.ownBlock ≠ some g) (hB : g < w.heap.size) (hr : v'.ownBlock = v.ownBlock ∨ ∃ k, w.heap.size ≤ k ∧ v'.ownBlock = some k) : v'.ownBlock ≠ some g := by
  rcases hr with e | ⟨k, hk, e⟩
  · rw [e]; exact h
  · rw [e]; intro e2; injection e2 with e2; omega
set_option maxRecDepth 100000 in
set_option maxHeartbeats 2000000 in
theorem rparts_any (s : List UInt8) (w : World) (hs : s.length ≤ 10000000) :
    Calls Try.prog 16 #[.string ⟨s.toArray⟩] w fun e w' => ∃ v, e = .returned v ∧ Row1 w' 9 v ((N.parts s).map strV) ∧ Below w.heap.size w w' := by
  have hrl := N.runes_len s
  have RR := Lib.hid (fun W => rrunes_any2 s W (by omega))
  have hT : N.partsGo s (N.rest s 0) 0 = N.parts s := rfl
  have hR : N.runes s = N.rest s 0 := rfl
  have hz := str_size s
  generalize N.parts s = P at *
  generalize N.runes s = T at *
  obtain ⟨n, hn⟩ : ∃ n, n = T.length := ⟨_, rfl⟩
  rw [← hn] at RR hrl
  have Hn := Lib.hid hn
  have HT := Lib.hid hT
  have HR := Lib.hid hR
  have n0 : (0 : Int) ≤ (n : Int) := by omega
  have n1 : (n : Int) ≤ 10000000 := by omega
  clear hn hT hR
  go_enter Try.func16, Try.ntmps16
  go_wp2_with (go_at_call 19; with_reducible refine (RR.out _).mono ?_; rintro e w1 ⟨g, cap, rfl, hcap, hgl, hra, hb1⟩)
  have hrow0 : Row1 w1 9 (.slice (some ⟨w.heap.size, 0, none⟩) 0 0) (([] : List (List UInt8)).map strV) := (Row1.build w 9 [] #[] 0 rfl rfl (by omega)).at_ hb1
  have hb0 : Below w.heap.size w w1 := (below_alloc1 w _).trans (hb1.mono (by simp))
  have hg0 : (Value.slice (some ⟨w.heap.size, 0, none⟩) 0 0).ownBlock ≠ some g := by
    intro e
    simp [Value.ownBlock] at e
    simp at hgl
    omega
  go_loopw [3, 4, 11] (fun v f x wr => ∃ (i p fr : Nat) (acc : List (List UInt8)) (vl : Value), vl = v ∧ f = .int .i64 (fr : Int) ∧ x = .int .i64 (i : Int) ∧ i ≤ n ∧ fr ≤ p ∧ p ≤ s.length ∧ T.drop i = N.rest s p ∧ Row1 wr 9 vl (acc.map strV) ∧ vl.ownBlock ≠ some g ∧ (vl.ownBlock = none ∨ ∃ k, w.heap.size ≤ k ∧ vl.ownBlock = some k) ∧ acc ++ N.partsGo s (N.rest s p) fr = P ∧ acc.length ≤ i ∧ RunesAt wr g T ∧ Below w.heap.size w wr) (fun _ _ x _ => n - (intOf x).toNat)
  case atStart => exact ⟨0, 0, 0, [], _, rfl, rfl, rfl, by omega, by omega, by omega, HR.out, hrow0, hg0, .inr ⟨_, Nat.le_refl _, rfl⟩, HT.out, by simp, hra, hb0⟩
  case round =>
    clear hra hb1 hb0 hrow0 hg0 HR HT RR
    obtain ⟨i, p, fr, acc, vl, rfl, rfl, rfl, hi, hfp, hps, hdr, hrow, hog, hown, hch, hal, hra, hB⟩ := hrel
    have i0 : (0 : Int) ≤ (i : Int) := by omega
    have i1 : (i : Int) ≤ 10000000 := by omega
    have f0 : (0 : Int) ≤ (fr : Int) := by omega
    have f1 : (fr : Int) ≤ 10000000 := by omega
    by_cases hlt : i < n
    · have hl : i < T.length := by rw [← Hn.out]; exact hlt
      have hlp : p < s.length := by
        rcases Nat.lt_or_ge p s.length with h | h
        · exact h
        · rw [N.rest_end s p (by omega)] at hdr
          have := congrArg List.length hdr
          rw [List.length_drop] at this
          simp at this
          omega
      have hst := N.step_le s p hlp
      have hnx := N.rest_next s p hlp
      rw [hnx] at hdr hch
      have hr : T[i]? = some ((N.rn (s.drop p)).1, p, (N.rn (s.drop p)).2) := by
        have := congrArg (·[0]?) hdr
        simp at this
        exact this
      have hdr2 : T.drop (i + 1) = N.rest s (p + (N.rn (s.drop p)).2) := by
        have := congrArg (List.drop 1) hdr
        rw [List.drop_drop] at this
        exact this
      have hrg := hra.2 i _ hr
      have hsm := N.rn_small (s.drop p)
      rw [N.partsGo] at hch
      unfold runeL at hrg
      dsimp only at hrg hch
      have HD := Lib.hid hdr2
      clear hdr hnx hr hdr2 hl
      generalize (N.rn (s.drop p)).1 = c at *
      generalize (N.rn (s.drop p)).2 = z at *
      have d0 : decide ((i : Int) < (n : Int)) = true := by simp; omega
      have d0' : decide (i < n) = true := by simpa using hlt
      have iN : (i : Int) < (n : Int) := by omega
      have p0 : (0 : Int) ≤ (p : Int) := by omega
      have p1 : (p : Int) ≤ 10000000 := by omega
      have KC := Lib.hid (fun W => rkind_any (c : Int) W)
      have hj : N.kind (c : Int) = 3 → z = 1 := fun h => hsm (by have := N.kind_joint h; omega)
      clear hsm
      by_cases hk : N.kind (c : Int) = 3
      · have hz1 := hj hk
        subst hz1
        rw [if_pos hk] at hch
        rw [hk, show ((3 : Nat) : Int) = 3 from rfl] at KC
        have hmid := str_mid_ s fr p (fr : Int) (p : Int) rfl rfl (by omega) hps
        have Hch := Lib.hid hch
        clear hch hk hj
        generalize (s.drop fr).take (p - fr) = E at *
        have hlen : ((acc.map strV).length + 1) * 16 ≤ 140737488355328 := by rw [List.length_map]; omega
        go_wp2_with (refine wpList_load_mid rfl 43 (.tmp 13) rfl g (i * 3) (by rfl) [.int .i64 (c : Int), .int .i64 (p : Int), .int .i64 ((1 : Nat) : Int)] _ hrg Try.underlying43 (by rfl) info_rune ?_; simp only [Act.put, List.setIfInBounds_toArray, List.set_cons_succ, List.set_cons_zero])
        go_wp2_with (first | (go_at_call 13; with_reducible refine (KC.out _).mono ?_; rintro e w2 ⟨rfl, hb2⟩; have k1 := (Blk.new wr #[.int .i64 (c : Int), .int .i64 (p : Int), .int .i64 1] 43).at_ hb2; have k10 := k1.cellv (i := 0) rfl; have k11 := k1.cellv (i := 1) rfl; have k12 := k1.cellv (i := 2) rfl) | (at_builtin; refine wpList_append_row rfl info_str (.tmp 19) (.tmp 25) 35 rfl Try.underlying35 rfl (((hrow.alloc _).at_ hb2).alloc _) ⟨w2.heap.size, 0, none⟩ 1 1 [strV E] rfl rfl (new_cells _ _ _ rfl _) (str_one [E]) hlen ?_; intro v1 w3 hrow2 hg2 hr2; have hnb : some wr.heap.size ≠ vl.ownBlock := fun e => (by have := hrow.lt e.symm; omega); have kg1 := hg2.cell (((k1.alloc (.cells #[strV E] 9)).cellv (i := 1) rfl)) hnb; have kg2 := hg2.cell (((k1.alloc (.cells #[strV E] 9)).cellv (i := 2) rfl)) hnb))
        have hBa := hB.alloc (o := .cells #[.int .i64 (c : Int), .int .i64 (p : Int), .int .i64 1] 43) hB.size
        have hBb := hBa.trans (hb2.mono hBa.size)
        have hBc := hBb.alloc (o := .cells #[strV E] 9) hBb.size
        have hBd := below_grown_own hBc hBc.size hg2 hown
        have hown2 := own_later hown hBc.size hr2
        have hra2 := ((hra.at_ (below_alloc1 wr _)).at_ hb2).at_ (below_alloc1 w2 (.cells #[strV E] 9))
        have hra3 := hra2.grown hg2 hog
        have hog2 := own_other hog hra2.1 hr2
        rw [show acc.map strV ++ [strV E] = (acc ++ [E]).map strV by simp] at hrow2
        have Hst := Lib.hid hst
        go_roundw
        case rel => exact ⟨i + 1, p + 1, p + 1, acc ++ [E], _, rfl, by go_num, by go_num, by omega, by omega, Hst.out.1, HD.out, hrow2, hog2, hown2, by rw [List.append_assoc]; exact Hch.out, by simp; omega, hra3, hBd⟩
        case measure => simp [intOf]; omega
      · rw [if_neg hk] at hch
        have d3 : (((N.kind (c : Int) : Nat) : Int) == 3) = false := by rw [beq_eq_false_iff_ne]; omega
        have Hch := Lib.hid hch
        clear hch hk hj
        generalize N.kind (c : Int) = kk at *
        go_wp2_with (refine wpList_load_mid rfl 43 (.tmp 13) rfl g (i * 3) (by rfl) [.int .i64 (c : Int), .int .i64 (p : Int), .int .i64 (z : Int)] _ hrg Try.underlying43 (by rfl) info_rune ?_; simp only [Act.put, List.setIfInBounds_toArray, List.set_cons_succ, List.set_cons_zero])
        go_wp2_with (go_at_call 13; with_reducible refine (KC.out _).mono ?_; rintro e w2 ⟨rfl, hb2⟩; have k1 := (Blk.new wr #[.int .i64 (c : Int), .int .i64 (p : Int), .int .i64 z] 43).at_ hb2; have k10 := k1.cellv (i := 0) rfl; have k11 := k1.cellv (i := 1) rfl; have k12 := k1.cellv (i := 2) rfl)
        have hBa := hB.alloc (o := .cells #[.int .i64 (c : Int), .int .i64 (p : Int), .int .i64 (z : Int)] 43) hB.size
        have Hst := Lib.hid hst
        go_roundw
        case rel => exact ⟨i + 1, p + z, fr, acc, _, rfl, rfl, by go_num, by omega, by have := Hst.out; omega, Hst.out.1, HD.out, (hrow.alloc _).at_ hb2, hog, hown, Hch.out, by omega, (hra.at_ (below_alloc1 wr _)).at_ hb2, hBa.trans (hb2.mono hBa.size)⟩
        case measure => simp [intOf]; omega
    · have d0 : decide ((i : Int) < (n : Int)) = false := by simp; omega
      have d0' : decide (i < n) = false := by simpa using hlt
      have hlp : ¬ p < s.length := by
        intro h
        rw [List.drop_eq_nil_of_le (by have := Hn.out; omega), N.rest_next s p h] at hdr
        cases hdr
      rw [N.rest_end s p hlp, N.partsGo] at hch
      have hfrom := str_from_ s fr (fr : Int) rfl (by omega)
      have hlen : ((acc.map strV).length + 1) * 16 ≤ 140737488355328 := by rw [List.length_map]; omega
      have Hch := Lib.hid hch
      clear hch hlt hlp hdr
      generalize s.drop fr = t at *
      go_wp2_with (at_builtin; refine wpList_append_row rfl info_str (.tmp 33) (.tmp 37) 35 rfl Try.underlying35 rfl (hrow.alloc _) ⟨wr.heap.size, 0, none⟩ 1 1 [strV t] rfl rfl (new_cells _ _ _ rfl _) (str_one [t]) hlen ?_; intro v1 w2 hrow2 hg2 hr2)
      go_ret
      have hB1 := hB.alloc (o := .cells #[strV t] 9) hB.size
      have hB3 := below_grown_own hB1 hB1.size hg2 hown
      rw [show acc.map strV ++ [strV t] = (acc ++ [t]).map strV by simp, Hch.out] at hrow2
      exact ⟨_, rfl, hrow2, hB3⟩
end Go.Proofs.Ytpinackeelncfaa
