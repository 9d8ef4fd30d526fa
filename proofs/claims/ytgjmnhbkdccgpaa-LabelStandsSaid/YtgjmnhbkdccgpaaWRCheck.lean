/- The walk of the reference's Check of identities. -/
import Derived.Test.YtgjmnhbkdccgpaaWRRunes
import Derived.Test.YtgjmnhbkdccgpaaWNCheck
namespace Go.Proofs.Ytgjmnhbkdccgpaa
open Go.RowKit

set_option maxRecDepth 100000 in
set_option maxHeartbeats 4000000 in
theorem rcheck_any (s : List UInt8) (w : World) (hs : s.length ≤ 100000000000) :
    Calls Try.prog 66 #[.string ⟨s.toArray⟩] w fun e w' => e = .returned (.tuple #[.int .i64 ((N.check s).1 : Int), .int .i64 ((N.check s).2 : Int)]) ∧ Below w.heap.size w w' := by
  have hz := str_size s
  have hrl := N.runes_len s
  have RR := Lib.hid (fun W => rrunes_any s W hs)
  by_cases hnil : s = []
  · subst hnil
    rw [show N.runes [] = [] from rfl] at RR
    go_enter Try.func66, Try.ntmps66
    go_wp2_with (go_at_call 103; with_reducible refine (RR.out _).mono ?_; rintro e w1 ⟨g, cap, rfl, hc, hra, hb1⟩)
    go_ret2
    exact ⟨rfl, hb1⟩
  have hpos : 0 < (N.runes s).length := by
    show 0 < (N.rest s 0).length
    rw [N.rest_next s 0 (List.length_pos_iff.2 hnil)]
    simp
  have hck : N.chk (N.runes s) 0 3 s.length = N.check s := by rw [N.check, if_neg hnil]
  generalize hC : N.check s = C at *
  clear hC hnil
  generalize N.runes s = T at *
  obtain ⟨n, hn⟩ : ∃ n, n = T.length := ⟨_, rfl⟩
  rw [← hn] at RR hpos hrl
  have hn0 : ((n : Int) == 0) = false := by rw [beq_eq_false_iff_ne]; omega
  have Hck := Lib.hid hck
  have Hn := Lib.hid hn
  clear hck hn
  go_enter Try.func66, Try.ntmps66
  go_wp2_with (go_at_call 103; with_reducible refine (RR.out _).mono ?_; rintro e w1 ⟨g, cap, rfl, hcap, hra, hb1⟩)
  go_loopw [15] (fun x wr => ∃ i last : Nat, x = .int .i64 (i : Int) ∧ i ≤ n ∧ i ≤ 40 ∧ RunesAt wr g T ∧ N.chk (T.drop i) i last s.length = C ∧ ((i = 0 ∧ last = 3) ∨ (0 < i ∧ last = N.kind ((T.getD (i - 1) (0, 0, 0)).1 : Int))) ∧ Below w.heap.size w wr) (fun x _ => n - (intOf x).toNat)
  case atStart => exact ⟨0, 3, rfl, by omega, by omega, hra, Hck.out, .inl ⟨rfl, rfl⟩, hb1⟩
  case round =>
    clear hra hb1 Hck
    obtain ⟨i, last, rfl, hi, hi40, hra, hch, hla, hB⟩ := hrel
    by_cases hlt : i < n
    · have hl : i < T.length := by rw [← Hn.out]; exact hlt
      obtain ⟨r, hr⟩ : ∃ r, T[i]? = some r := ⟨_, List.getElem?_eq_getElem hl⟩
      have hrg := hra.2 i r hr
      have hdr : T.drop i = r :: T.drop (i + 1) := by
        rw [List.drop_eq_getElem_cons hl]
        congr 1
        exact Option.some.inj ((List.getElem?_eq_getElem hl).symm.trans hr)
      rw [hdr, N.chk] at hch
      obtain ⟨c, q, z⟩ := r
      dsimp only at hch
      unfold runeL at hrg
      dsimp only at hrg
      have d0 : decide ((i : Int) < (n : Int)) = true := by simp; omega
      have d0' : decide (i < n) = true := by simpa using hlt
      have i0 : (0 : Int) ≤ (i : Int) := by omega
      have i1 : (i : Int) ≤ 40 := by omega
      have iN : (i : Int) < (n : Int) := by omega
      by_cases c1 : c = 65533
      · have d1 : (((c : Nat) : Int) == 65533) = true := by simp; omega
        rw [if_pos c1] at hch
        have Hch := Lib.hid hch
        clear hch c1
        go_wp2_with (refine wpList_load_mid rfl 149 (.tmp 18) (by rfl) g (i * 3) (by rfl) [.int .i64 (c : Int), .int .i64 (q : Int), .int .i64 (z : Int)] _ hrg Try.underlying149 (by rfl) info_rune ?_; simp only [Act.put, List.setIfInBounds_toArray, List.set_cons_succ, List.set_cons_zero])
        go_ret2
        rw [← Hch.out]
        exact ⟨rfl, hB.alloc hB.size _⟩
      have d1 : (((c : Nat) : Int) == 65533) = false := by rw [beq_eq_false_iff_ne]; omega
      rw [if_neg c1] at hch
      clear c1
      by_cases c2 : 40 ≤ i
      · have d2 : decide ((40 : Int) ≤ (i : Int)) = true := by simp; omega
        have d2' : decide (40 ≤ i) = true := by simpa using c2
        rw [if_pos c2] at hch
        have Hch := Lib.hid hch
        clear hch c2
        go_wp2_with (refine wpList_load_mid rfl 149 (.tmp 18) (by rfl) g (i * 3) (by rfl) [.int .i64 (c : Int), .int .i64 (q : Int), .int .i64 (z : Int)] _ hrg Try.underlying149 (by rfl) info_rune ?_; simp only [Act.put, List.setIfInBounds_toArray, List.set_cons_succ, List.set_cons_zero])
        go_ret2
        rw [← Hch.out]
        exact ⟨rfl, hB.alloc hB.size _⟩
      have d2 : decide ((40 : Int) ≤ (i : Int)) = false := by simp; omega
      have d2' : decide (40 ≤ i) = false := by simpa using c2
      rw [if_neg c2] at hch
      have hk3 := N.kind_le (c : Int)
      have KC := Lib.hid (fun W => rkind_any (c : Int) W)
      have GC := Lib.hid (fun W => great_any (c : Int) W)
      have hbad : N.bad c last = (N.kind c == 0 || (N.kind c == 3 && last == 3) || N.great c) := rfl
      have HI := Lib.hid (show i + 1 ≤ n ∧ i + 1 ≤ 40 by omega)
      have hcg : (T.getD i (0, 0, 0)).1 = c := by rw [List.getD_eq_getElem?_getD, hr]; rfl
      have HX := Lib.hid (show (i + 1 = 0 ∧ N.kind (c : Int) = 3) ∨ (0 < i + 1 ∧ N.kind (c : Int) = N.kind ((T.getD (i + 1 - 1) (0, 0, 0)).1 : Int)) from .inr ⟨by omega, by rw [Nat.add_sub_cancel, hcg]⟩)
      clear hcg c2
      generalize N.kind (c : Int) = kk at *
      by_cases c3 : kk = 0
      · have d3 : (((kk : Nat) : Int) == 0) = true := by simp; omega
        rw [if_pos (by rw [hbad, c3]; rfl)] at hch
        have Hch := Lib.hid hch
        clear hch c3 hbad
        go_wp2_with (first | (refine wpList_load_mid rfl 149 (.tmp 18) (by rfl) g (i * 3) (by rfl) [.int .i64 (c : Int), .int .i64 (q : Int), .int .i64 (z : Int)] _ hrg Try.underlying149 (by rfl) info_rune ?_; simp only [Act.put, List.setIfInBounds_toArray, List.set_cons_succ, List.set_cons_zero]) | (go_at_call 104; with_reducible refine (KC.out _).mono ?_; rintro e w1 ⟨rfl, hb1⟩; have k1 := (Blk.new wr #[.int .i64 (c : Int), .int .i64 (q : Int), .int .i64 (z : Int)] 149).at_ hb1; have k10 := k1.cellv (i := 0) rfl; have k11 := k1.cellv (i := 1) rfl))
        go_ret2
        rw [← Hch.out]
        exact ⟨rfl, (hB.alloc hB.size _).trans (hb1.mono (Nat.le_of_lt_succ (Nat.lt_succ_of_lt (by have := hB.size; simp; omega))))⟩
      have d3 : (((kk : Nat) : Int) == 0) = false := by rw [beq_eq_false_iff_ne]; omega
      have b3 : (kk == 0) = false := by simpa using c3
      rw [b3, Bool.false_or] at hbad
      clear c3
      by_cases c4 : N.great c = true
      · rw [c4] at GC
        rw [if_pos (by rw [hbad, c4, Bool.or_true])] at hch
        have Hch := Lib.hid hch
        clear hch hbad c4
        go_wp2_with (first | (refine wpList_load_mid rfl 149 (.tmp 18) (by rfl) g (i * 3) (by rfl) [.int .i64 (c : Int), .int .i64 (q : Int), .int .i64 (z : Int)] _ hrg Try.underlying149 (by rfl) info_rune ?_; simp only [Act.put, List.setIfInBounds_toArray, List.set_cons_succ, List.set_cons_zero]) | (go_at_call 104; with_reducible refine (KC.out _).mono ?_; rintro e w1 ⟨rfl, hb1⟩; have k1 := (Blk.new wr #[.int .i64 (c : Int), .int .i64 (q : Int), .int .i64 (z : Int)] 149).at_ hb1; have k10 := k1.cellv (i := 0) rfl; have k11 := k1.cellv (i := 1) rfl) | (go_at_call 105; with_reducible refine (GC.out _).mono ?_; rintro e w2 ⟨rfl, hb2⟩; have k2 := k1.at_ hb2; have k20 := k2.cellv (i := 0) rfl; have k21 := k2.cellv (i := 1) rfl))
        go_ret2
        rw [← Hch.out]
        exact ⟨rfl, ((hB.alloc hB.size _).trans (hb1.mono (by have := hB.size; simp; omega))).trans (hb2.mono (by have := hB.size; have := hb1.size; simp at *; omega))⟩
      have c4 : N.great c = false := by simpa using c4
      rw [c4] at GC
      rw [c4, Bool.or_false] at hbad
      by_cases c5 : kk = 3
      · have d5 : (((kk : Nat) : Int) == 3) = true := by simp; omega
        have b5 : (kk == 3) = true := by simpa using c5
        rw [b5, Bool.true_and] at hbad
        clear c4
        rcases hla with ⟨hi0, rfl⟩ | ⟨hi0, hla⟩
        · rw [if_pos (by rw [hbad]; rfl)] at hch
          have e0 : ((i : Int) == 0) = true := by rw [beq_iff_eq]; omega
          have e0' : (i == 0) = true := by simpa using hi0
          have Hch := Lib.hid hch
          clear hch hbad b3 b5 c5 hi0
          go_wp2_with (first | (refine wpList_load_mid rfl 149 (.tmp 18) (by rfl) g (i * 3) (by rfl) [.int .i64 (c : Int), .int .i64 (q : Int), .int .i64 (z : Int)] _ hrg Try.underlying149 (by rfl) info_rune ?_; simp only [Act.put, List.setIfInBounds_toArray, List.set_cons_succ, List.set_cons_zero]) | (go_at_call 104; with_reducible refine (KC.out _).mono ?_; rintro e w1 ⟨rfl, hb1⟩; have k1 := (Blk.new wr #[.int .i64 (c : Int), .int .i64 (q : Int), .int .i64 (z : Int)] 149).at_ hb1; have k10 := k1.cellv (i := 0) rfl; have k11 := k1.cellv (i := 1) rfl) | (go_at_call 105; with_reducible refine (GC.out _).mono ?_; rintro e w2 ⟨rfl, hb2⟩; have k2 := k1.at_ hb2; have k20 := k2.cellv (i := 0) rfl; have k21 := k2.cellv (i := 1) rfl))
          go_ret2
          rw [← Hch.out]
          exact ⟨rfl, ((hB.alloc hB.size _).trans (hb1.mono (by have := hB.size; simp; omega))).trans (hb2.mono (by have := hB.size; have := hb1.size; simp at *; omega))⟩
        · obtain ⟨k, hk⟩ : ∃ k, k = i - 1 := ⟨_, rfl⟩
          rw [← hk] at hla
          obtain ⟨r2, hr2⟩ : ∃ r2, T[k]? = some r2 := ⟨_, List.getElem?_eq_getElem (by omega)⟩
          have hrg2 := hra.2 k r2 hr2
          have hcg : (T.getD k (0, 0, 0)).1 = r2.1 := by rw [List.getD_eq_getElem?_getD, hr2]; rfl
          rw [hcg] at hla
          obtain ⟨c', q', z'⟩ := r2
          dsimp only at hla
          have KP := Lib.hid (fun W => rkind_any (c' : Int) W)
          have hk3' := N.kind_le (c' : Int)
          rw [← hla] at KP hk3'
          have hgz := hra.1
          have kp : wr.cell? ⟨g, k * 3, none⟩ = some (.int .i64 (c' : Int)) := hrg2 0 _ rfl
          have e0 : ((i : Int) == 0) = false := by rw [beq_eq_false_iff_ne]; omega
          have e0' : (i == 0) = false := by rw [beq_eq_false_iff_ne]; omega
          have ksub : (i : Int) - 1 = (k : Int) := by omega
          have k0 : (0 : Int) ≤ (k : Int) := by omega
          have k1 : (k : Int) < (n : Int) := by omega
          clear hrg2 hcg hk hi0
          by_cases c6 : last = 3
          · have d6 : (((last : Nat) : Int) == 3) = true := by simp; omega
            rw [if_pos (by rw [hbad, c6]; rfl)] at hch
            have Hch := Lib.hid hch
            clear hch hbad b3 b5 c5 c6 hla
            go_wp2_with (first | (refine wpList_load_mid rfl 149 (.tmp 18) (by rfl) g (i * 3) (by rfl) [.int .i64 (c : Int), .int .i64 (q : Int), .int .i64 (z : Int)] _ hrg Try.underlying149 (by rfl) info_rune ?_; simp only [Act.put, List.setIfInBounds_toArray, List.set_cons_succ, List.set_cons_zero]) | (go_at_call 104; with_reducible refine (KC.out _).mono ?_; rintro e w1 ⟨rfl, hb1⟩; have k1 := (Blk.new wr #[.int .i64 (c : Int), .int .i64 (q : Int), .int .i64 (z : Int)] 149).at_ hb1; have k10 := k1.cellv (i := 0) rfl; have k11 := k1.cellv (i := 1) rfl; have kp1 := (hb1.cell (p := ⟨g, k * 3, none⟩) (by simp; omega)).trans ((Below.cell (below_alloc1 wr _) hgz).trans kp); clear k1) | (go_at_call 105; with_reducible refine (GC.out _).mono ?_; rintro e w2 ⟨rfl, hb2⟩; have kp2 := (hb2.cell (p := ⟨g, k * 3, none⟩) (by have := hb1.size; simp at *; omega)).trans kp1; have k20 := (hb2.cell (p := ⟨wr.heap.size, 0, none⟩) (by have := hb1.size; simp at *; omega)).trans k10; have k21 := (hb2.cell (p := ⟨wr.heap.size, 1, none⟩) (by have := hb1.size; simp at *; omega)).trans k11) | (go_at_call 104; with_reducible refine (KP.out _).mono ?_; rintro e w3 ⟨rfl, hb3⟩; try have k31 := (hb3.cell (p := ⟨wr.heap.size, 1, none⟩) (by have := hb1.size; have := hb2.size; simp at *; omega)).trans k21))
            go_ret2
            rw [← Hch.out]
            exact ⟨rfl, (((hB.alloc hB.size _).trans (hb1.mono (by have := hB.size; simp; omega))).trans (hb2.mono (by have := hB.size; have := hb1.size; simp at *; omega))).trans (hb3.mono (by have := hB.size; have := hb1.size; have := hb2.size; simp at *; omega))⟩
          · have d6 : (((last : Nat) : Int) == 3) = false := by rw [beq_eq_false_iff_ne]; omega
            have b6 : (last == 3) = false := by simpa using c6
            rw [if_neg (by rw [hbad, b6]; simp)] at hch
            have Hch := Lib.hid hch
            clear hch hbad b3 b5 c6 hla
            go_wp2_with (first | (refine wpList_load_mid rfl 149 (.tmp 18) (by rfl) g (i * 3) (by rfl) [.int .i64 (c : Int), .int .i64 (q : Int), .int .i64 (z : Int)] _ hrg Try.underlying149 (by rfl) info_rune ?_; simp only [Act.put, List.setIfInBounds_toArray, List.set_cons_succ, List.set_cons_zero]) | (go_at_call 104; with_reducible refine (KC.out _).mono ?_; rintro e w1 ⟨rfl, hb1⟩; have k1 := (Blk.new wr #[.int .i64 (c : Int), .int .i64 (q : Int), .int .i64 (z : Int)] 149).at_ hb1; have k10 := k1.cellv (i := 0) rfl; have k11 := k1.cellv (i := 1) rfl; have kp1 := (hb1.cell (p := ⟨g, k * 3, none⟩) (by simp; omega)).trans ((Below.cell (below_alloc1 wr _) hgz).trans kp); clear k1) | (go_at_call 105; with_reducible refine (GC.out _).mono ?_; rintro e w2 ⟨rfl, hb2⟩; have kp2 := (hb2.cell (p := ⟨g, k * 3, none⟩) (by have := hb1.size; simp at *; omega)).trans kp1; have k20 := (hb2.cell (p := ⟨wr.heap.size, 0, none⟩) (by have := hb1.size; simp at *; omega)).trans k10; have k21 := (hb2.cell (p := ⟨wr.heap.size, 1, none⟩) (by have := hb1.size; simp at *; omega)).trans k11) | (go_at_call 104; with_reducible refine (KP.out _).mono ?_; rintro e w3 ⟨rfl, hb3⟩; try have k31 := (hb3.cell (p := ⟨wr.heap.size, 1, none⟩) (by have := hb1.size; have := hb2.size; simp at *; omega)).trans k21))
            go_roundw
            case rel => exact ⟨i + 1, kk, by go_num, HI.out.1, HI.out.2, (((hra.at_ (below_alloc1 wr _)).at_ hb1).at_ hb2).at_ hb3, Hch.out, HX.out, (((hB.alloc hB.size _).trans (hb1.mono (by have := hB.size; simp; omega))).trans (hb2.mono (by have := hB.size; have := hb1.size; simp at *; omega))).trans (hb3.mono (by have := hB.size; have := hb1.size; have := hb2.size; simp at *; omega))⟩
            case measure => have := HI.out; simp [intOf]; omega
      · have d5 : (((kk : Nat) : Int) == 3) = false := by rw [beq_eq_false_iff_ne]; omega
        have b5 : (kk == 3) = false := by simpa using c5
        rw [b5, Bool.false_and] at hbad
        rw [if_neg (by rw [hbad]; simp)] at hch
        have Hch := Lib.hid hch
        clear hch hbad b3 b5 c5 hla
        go_wp2_with (first | (refine wpList_load_mid rfl 149 (.tmp 18) (by rfl) g (i * 3) (by rfl) [.int .i64 (c : Int), .int .i64 (q : Int), .int .i64 (z : Int)] _ hrg Try.underlying149 (by rfl) info_rune ?_; simp only [Act.put, List.setIfInBounds_toArray, List.set_cons_succ, List.set_cons_zero]) | (go_at_call 104; with_reducible refine (KC.out _).mono ?_; rintro e w1 ⟨rfl, hb1⟩; have k1 := (Blk.new wr #[.int .i64 (c : Int), .int .i64 (q : Int), .int .i64 (z : Int)] 149).at_ hb1; have k10 := k1.cellv (i := 0) rfl; have k11 := k1.cellv (i := 1) rfl) | (go_at_call 105; with_reducible refine (GC.out _).mono ?_; rintro e w2 ⟨rfl, hb2⟩; have k2 := k1.at_ hb2; have k20 := k2.cellv (i := 0) rfl; have k21 := k2.cellv (i := 1) rfl))
        go_roundw
        case rel => exact ⟨i + 1, kk, by go_num, HI.out.1, HI.out.2, ((hra.at_ (below_alloc1 wr _)).at_ hb1).at_ hb2, Hch.out, HX.out, ((hB.alloc hB.size _).trans (hb1.mono (by have := hB.size; simp; omega))).trans (hb2.mono (by have := hB.size; have := hb1.size; simp at *; omega))⟩
        case measure => have := HI.out; simp [intOf]; omega
    · have d0 : decide ((i : Int) < (n : Int)) = false := by simp; omega
      have d0' : decide (i < n) = false := by simpa using hlt
      have hin : i = n := by omega
      rw [List.drop_eq_nil_of_le (by have := Hn.out; omega), N.chk] at hch
      rcases hla with ⟨hi0, _⟩ | ⟨hi0, hla⟩
      · omega
      obtain ⟨k, hk⟩ : ∃ k, k = n - 1 := ⟨_, rfl⟩
      rw [hin, ← hk] at hla
      obtain ⟨r2, hr2⟩ : ∃ r2, T[k]? = some r2 := ⟨_, List.getElem?_eq_getElem (by have := Hn.out; omega)⟩
      have hrg2 := hra.2 k r2 hr2
      have hcg : (T.getD k (0, 0, 0)).1 = r2.1 := by rw [List.getD_eq_getElem?_getD, hr2]; rfl
      rw [hcg] at hla
      obtain ⟨c', q', z'⟩ := r2
      dsimp only at hla
      have KP := Lib.hid (fun W => rkind_any (c' : Int) W)
      have hk3' := N.kind_le (c' : Int)
      rw [← hla] at KP hk3'
      have kp : wr.cell? ⟨g, k * 3, none⟩ = some (.int .i64 (c' : Int)) := hrg2 0 _ rfl
      have ksub : (n : Int) - 1 = (k : Int) := by omega
      have k0 : (0 : Int) ≤ (k : Int) := by omega
      have k1 : (k : Int) < (n : Int) := by omega
      have n0 : (0 : Int) ≤ (n : Int) := by omega
      have n1 : (n : Int) ≤ 100000000000 := by omega
      clear hrg2 hcg hk hi0 hin
      by_cases c6 : last = 3
      · have d6 : (((last : Nat) : Int) == 3) = true := by simp; omega
        rw [if_pos c6] at hch
        have Hch := Lib.hid hch
        clear hch c6 hla
        go_wp2_with (go_at_call 104; with_reducible refine (KP.out _).mono ?_; rintro e w3 ⟨rfl, hb3⟩; try have k31 := (hb3.cell (p := ⟨wr.heap.size, 1, none⟩) (by have := hb1.size; have := hb2.size; simp at *; omega)).trans k21)
        go_ret2
        rw [← Hch.out]
        exact ⟨rfl, hB.trans (hb3.mono hB.size)⟩
      · have d6 : (((last : Nat) : Int) == 3) = false := by rw [beq_eq_false_iff_ne]; omega
        rw [if_neg c6] at hch
        have Hch := Lib.hid hch
        clear hch c6 hla
        go_wp2_with (go_at_call 104; with_reducible refine (KP.out _).mono ?_; rintro e w3 ⟨rfl, hb3⟩; try have k31 := (hb3.cell (p := ⟨wr.heap.size, 1, none⟩) (by have := hb1.size; have := hb2.size; simp at *; omega)).trans k21)
        go_ret2
        rw [← Hch.out]
        exact ⟨rfl, hB.trans (hb3.mono hB.size)⟩
end Go.Proofs.Ytgjmnhbkdccgpaa
