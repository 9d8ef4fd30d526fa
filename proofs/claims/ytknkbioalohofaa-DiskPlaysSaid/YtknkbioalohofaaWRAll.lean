/- The walks of the reference's All and Same. -/
import Derived.Test.YtknkbioalohofaaWROpen
import Derived.Test.YtknkbioalohofaaWAll
namespace Go.Proofs.Ytknkbioalohofaa
open Go.RowKit

set_option maxRecDepth 100000 in
set_option maxHeartbeats 2000000 in
/-- The reference's All. -/
theorem rall_any (s : List UInt8) (hs : s.length ≤ 35184372088832) (w : World) :
    Calls Try.prog 28 #[.string ⟨s.toArray⟩] w fun e w' => ∃ v, e = .returned (.tuple #[v, .int .i64 ((C.all s).2 : Int)]) ∧ Row1 w' 9 v ((C.all s).1.map strV) ∧ (v.ownBlock = none ∨ ∃ k, w.heap.size ≤ k ∧ v.ownBlock = some k) ∧ Below w.heap.size w w' := by
  have hz := str_size s
  have Hfr := Lib.hid (fun i h => str_from_ s i (i : Int) rfl h)
  generalize (⟨s.toArray⟩ : ByteArray) = S at *
  have hr0 := Row1.build w 9 [] #[] 0 rfl rfl (by omega)
  go_enter Try.func28, Try.ntmps28
  go_wp2
  go_loopw [4, 5] (fun v i wr => ∃ (ts : List (List UInt8)) (k : Nat), C.Got s ts k ∧ i = .int .i64 (k : Int) ∧ Row1 wr 9 v (ts.map strV) ∧ (v.ownBlock = none ∨ ∃ k, w.heap.size ≤ k ∧ v.ownBlock = some k) ∧ Below w.heap.size w wr) (fun _ i _ => s.length - (intOf i).toNat)
  case atStart => exact ⟨[], 0, C.Got.start s, rfl, hr0, .inr ⟨_, Nat.le_refl _, rfl⟩, below_alloc1 _ _⟩
  case round =>
    obtain ⟨ts, k, hgot, rfl, hrow, hown, hB⟩ := hrel
    have hk := hgot.1
    have hk8 := hgot.2.1
    have hki : (k : Int) ≤ 35184372088832 := by omega
    have hk0 : (0 : Int) ≤ (k : Int) := by omega
    by_cases hlt : k < s.length
    · have d1 : decide ((k : Int) < (S.size : Int)) = true := by rw [hz]; simp; omega
      have d1' : decide (k < S.size) = true := by rw [hz]; simp; omega
      have hf := Hfr.out k hk
      have H1 := Lib.hid (ropenF_any (s.drop k) (by rw [List.length_drop]; omega))
      by_cases h0 : (C.opn (s.drop k)).2.2 = 0
      · obtain ⟨g1, g2, g3⟩ := C.opn_ok h0
        have hnext := hgot.next h0
        have hlt := hnext.1
        have Hnext := Lib.hid hnext
        have Hg1 := Lib.hid g2
        rw [h0] at H1
        generalize C.opn (s.drop k) = T at H1 Hnext g1 g2 hlt Hg1
        obtain ⟨t, n, e⟩ := T
        simp only at H1 Hnext g1 g2 hlt Hg1
        have hn : (n : Int) ≤ 35184372088832 := by omega
        rw [show ((0 : Nat) : Int) = 0 from rfl] at H1
        have hlen : ((ts.map strV).length + 1) * 16 ≤ 140737488355328 := by rw [List.length_map]; omega
        clear h0 g1 g2 hnext hgot
        go_wp2_with (first | (go_at_call 26; with_reducible refine (H1.out _).mono ?_; rintro e w1 ⟨rfl, hb1⟩) | (at_builtin; refine wpList_append_row rfl info_str (.tmp 26) (.tmp 28) 35 rfl Try.underlying35 rfl ((hrow.at_ hb1).alloc _) ⟨w1.heap.size, 0, none⟩ 1 1 [strV t] rfl rfl (new_cells _ _ _ rfl _) (str_one [t]) hlen ?_; intro v1 w2 hrow2 hg2 hr2))
        have hB1 := (hB.trans (hb1.mono hB.size)).alloc (o := .cells #[strV t] 9) (Nat.le_trans hB.size hb1.size)
        have hs1 : w.heap.size ≤ (w1.alloc (.cells #[strV t] 9)).heap.size := by have := hB.size; have := hb1.size; simp; omega
        have hB2 := below_grown_own hB1 hs1 hg2 hown
        have hown2 := own_later hown hs1 hr2
        rw [show ts.map strV ++ [strV t] = (ts ++ [t]).map strV by simp] at hrow2
        go_roundw
        case rel => exact ⟨ts ++ [t], k + n, Hnext.out, by go_num, hrow2, hown2, hB2⟩
        case measure => have := Hg1.out; simp [intOf]; omega
      · have hdone := hgot.done h0
        have de : (((C.opn (s.drop k)).2.2 : Int) != 0) = true := by rw [bne_iff_ne]; omega
        have Hdone := Lib.hid hdone
        generalize C.opn (s.drop k) = T at H1 de
        obtain ⟨t, n, e⟩ := T
        simp only at H1 de
        clear h0 hdone hgot
        go_wp2_with (go_at_call 26; with_reducible refine (H1.out _).mono ?_; rintro e w1 ⟨rfl, hb1⟩)
        go_ret2
        rw [Hdone.out]
        exact ⟨_, rfl, hrow.at_ hb1, hown, hB.trans (hb1.mono hB.size)⟩
    · have d1 : decide ((k : Int) < (S.size : Int)) = false := by rw [hz]; simp; omega
      have d1' : decide (k < S.size) = false := by rw [hz]; simp; omega
      have hdone := hgot.done (by rw [List.drop_of_length_le (by omega)]; exact C.opn_nil)
      have Hdone := Lib.hid hdone
      clear hdone hgot
      go_wp2
      go_ret2
      rw [Hdone.out]
      exact ⟨_, rfl, hrow, hown, hB⟩

set_option maxRecDepth 100000 in
set_option maxHeartbeats 2000000 in
/-- The reference's Same. -/
theorem rsame_any (a b : List (List UInt8)) (v1 v2 : Value) (w : World) (h1 : SRead w v1 (a.map strV)) (h2 : SRead w v2 (b.map strV)) (ha : a.length ≤ 4611686018427387904) :
    Calls Try.prog 29 #[v1, v2] w fun e w' => e = .returned (.bool (decide (a = b))) ∧ ∃ n, w' = w.drewN n := by
  obtain ⟨A1, c1, rfl, hc1, h3⟩ := h1
  obtain ⟨A2, c2, rfl, hc2, h4⟩ := h2
  rw [List.length_map] at hc1 hc2
  simp only [List.length_map]
  by_cases hl : a.length = b.length
  · have Hl := Lib.hid hl
    have d1 : ((a.length : Int) != (b.length : Int)) = false := by rw [hl]; simp
    rw [← hl]
    rw [← hl] at d1
    clear hl
    go_enter Try.func29, Try.ntmps29
    go_wp2
    go_loopw [13] (fun i wr => ∃ k : Nat, k ≤ a.length ∧ i = .int .i64 (k : Int) ∧ Hid (a.take k = b.take k) ∧ ∃ n, wr = w.drewN n) (fun i _ => a.length - (intOf i).toNat)
    case atStart => exact ⟨0, Nat.zero_le _, rfl, Lib.hid (by simp), 0, rfl⟩
    case round =>
      obtain ⟨k, hk, rfl, heq, n, rfl⟩ := hrel
      have hbl := Hl.out
      by_cases hlt : k < a.length
      · have hltb : k < b.length := by omega
        have h3' := h3.resolve_left (by intro e; have e2 := congrArg List.length e; rw [List.length_map] at e2; simp at e2; rw [e2] at hlt; simp at hlt)
        have h4' := h4.resolve_left (by intro e; have e2 := congrArg List.length e; rw [List.length_map] at e2; simp at e2; rw [e2] at hltb; simp at hltb)
        obtain ⟨g1, o1, rfl, _, hcell1⟩ := h3'
        obtain ⟨g2, o2, rfl, _, hcell2⟩ := h4'
        have e1 := hcell1 k (strV a[k]) (by simp [hlt])
        have e2 := hcell2 k (strV b[k]) (by simp [hltb])
        have dk : decide ((k : Int) < (a.length : Int)) = true := by simp; omega
        have i0 : (0 : Int) ≤ (k : Int) := by omega
        have i1 : (k : Int) < (a.length : Int) := by omega
        have Htk : Hid (a.take (k + 1) = a.take k ++ [a[k]] ∧ b.take (k + 1) = b.take k ++ [b[k]]) := Lib.hid ⟨List.take_succ_eq_append_getElem hlt, List.take_succ_eq_append_getElem hltb⟩
        unfold strV at e1 e2
        have Hab : Hid (a = b → a[k] = b[k]) := Lib.hid (by rintro rfl; rfl)
        clear hcell1 hcell2 h3 h4 hbl
        generalize a[k] = x at *
        generalize b[k] = y at *
        generalize hN : a.length = N at *
        clear hN
        by_cases he : x = y
        · subst he
          go_wp2
          go_quiet (fail)
          go_wp2
          go_roundw
          case rel => exact ⟨k + 1, by omega, by go_num, Lib.hid (by rw [Htk.out.1, Htk.out.2, heq.out]), by first | exact ⟨_, rfl⟩ | exact ⟨_, World.drewN_drewN _ _ _⟩⟩
          case measure => simp [intOf]; omega
        · have dne := beq_eq_false_iff_ne.2 he
          have hne : ¬ a = b := fun e => he (Hab.out e)
          have Hne := Lib.hid (decide_eq_false hne)
          clear he hne
          go_wp2
          go_quiet (fail)
          go_wp2
          go_ret
          rw [Hne.out]
          exact ⟨rfl, _, World.drewN_drewN _ _ _⟩
      · obtain rfl : k = a.length := by omega
        have hab : a = b := by
          have h5 := heq.out
          rw [List.take_length, hbl, List.take_length] at h5
          exact h5
        have Hab := Lib.hid (decide_eq_true hab)
        clear hab heq hbl h3 h4
        go_wp2
        go_ret
        rw [Hab.out]
        exact ⟨rfl, _, rfl⟩
  · have d1 : ((a.length : Int) != (b.length : Int)) = true := by rw [bne_iff_ne]; omega
    have hne : ¬ a = b := fun e => hl (by rw [e])
    have Hne := Lib.hid (decide_eq_false hne)
    clear hne hl h3 h4
    go_enter Try.func29, Try.ntmps29
    go_wp2
    go_ret
    rw [Hne.out]
    exact ⟨rfl, 0, rfl⟩
end Go.Proofs.Ytknkbioalohofaa
