/- The walk of level.Last. -/
import Derived.Test.YtnfabofkfnmplaaLvQ
import Derived.Test.YtnfabofkfnmplaaLvR
import Derived.Deep.Cut
namespace Go.Proofs.Ytnfabofkfnmplaa
open Go.RowKit

def jbV (lev : Nat) (fv tv : Value) : Value := .agg #[.int .i64 (lev : Int), fv, tv]
theorem enters36 : ∀ args w, (callFunc 36 args).run Try.prog w = .ok (.enter 36 args) w := by
  intro args w
  kernel_rfl
theorem sread_form {w : World} {v : Value} {xs : List Value} (h : SRead w v xs) : ∃ A c, v = .slice A xs.length c ∧ SRead w (.slice A xs.length c) xs := by
  obtain ⟨A, c, rfl, h1, h2⟩ := h
  exact ⟨A, c, rfl, A, c, rfl, h1, h2⟩
set_option maxRecDepth 100000 in
set_option maxHeartbeats 4000000 in
theorem last_any (s : L.St) (sv fv tv : Value) (lev : Nat) (fr to : List Nat) (w : World) (h : FRead w sv s.files) (hf : SRead w fv (fr.map numV)) (ht : SRead w tv (to.map numV)) (hl : s.files.length ≤ 1000) (hfl : fr.length ≤ 1000) (htl : to.length ≤ 1000) (hlev : lev ≤ 10)
    (hne : s.files.filter (fun f => decide (f.num ∈ fr ++ to)) ≠ []) :
    Calls Try.prog 24 #[stV s sv, jbV lev fv tv] w fun e w' => e = .returned (.bool (!(L.deep s (lev + 1)).any (L.meets (L.span (s.files.filter fun f => decide (f.num ∈ fr ++ to)))))) ∧ Below w.heap.size w w' := by
  obtain ⟨A, c, rfl, hcap, h⟩ := fread_open h
  obtain ⟨Af, cf, rfl, hf⟩ := sread_form hf
  obtain ⟨At, ct, rfl, ht⟩ := sread_form ht
  have hm0 : s.files.filter (fun f => decide (f.num ∈ fr ++ to)) = [] ++ (s.files.drop 0).filter (fun f => decide (f.num ∈ fr ++ to)) := rfl
  have BL := Lib.hid (fun W (hW : Below w.heap.size w W) => below_any s (lev + 1) (.slice A s.files.length c) W (h.at_ hW) hl)
  have hDP : (L.deep s (lev + 1)).length ≤ 1000 := Nat.le_trans (List.length_filter_le _ _) hl
  generalize L.deep s (lev + 1) = DP at *
  obtain ⟨nx, lg, l⟩ := s
  dsimp only at h hcap hl hm0 hne BL ⊢
  generalize l.filter (fun f => decide (f.num ∈ fr ++ to)) = M at *
  unfold stV jbV at *
  dsimp only at *
  have FC := Lib.hid (fun W (hW : Below w.heap.size w W) x => contains_any fr _ x W (SRead.at_ hf hW) hfl)
  have TC := Lib.hid (fun W (hW : Below w.heap.size w W) x => contains_any to _ x W (SRead.at_ ht hW) htl)
  rw [List.length_map] at FC TC ⊢
  rw [List.length_map]
  obtain ⟨B0, B1, hB0⟩ := two_new w #[.int .i64 (nx : Int), .int .i64 (lg : Int), .slice A l.length c] #[.int .i64 (lev : Int), .slice Af fr.length cf, .slice At to.length ct] 29 39
  go_enter Try.func24, Try.ntmps24
  go_wp2
  go_loopw [5, 12] (fun u i wr => ∃ (k : Nat) (acc : List L.Fi), k ≤ l.length ∧ acc.length ≤ k ∧ i = .int .i64 (k : Int) ∧ Hid (M = acc ++ (l.drop k).filter (fun f => decide (f.num ∈ fr ++ to))) ∧ FRow wr u acc ∧ (u.ownBlock = none ∨ ∃ k, w.heap.size + 2 ≤ k ∧ u.ownBlock = some k) ∧ Blk wr w.heap.size #[.int .i64 (nx : Int), .int .i64 (lg : Int), .slice A l.length c] 29 ∧ Blk wr (w.heap.size + 1) #[.int .i64 (lev : Int), .slice Af fr.length cf, .slice At to.length ct] 39 ∧ Below w.heap.size w wr) (fun _ i _ => l.length - (intOf i).toNat)
  case atStart => exact ⟨0, [], Nat.zero_le _, by simp, rfl, Lib.hid hm0, RowN.nil _ _ _, .inl rfl, B0, B1, hB0⟩
  case round =>
    clear hB0 hm0 B0 B1
    obtain ⟨k, acc, hk, hacc, rfl, hgo, hrow, hown, B0, B1, hB⟩ := hrel
    have q0 : (0 : Int) ≤ (k : Int) := by omega
    by_cases hm : k < l.length
    · obtain ⟨A5, m5, c5, rfl, -, hrow⟩ := frow_open hrow
      have hown2 : (Value.slice A5 m5 c5).ownBlock = none ∨ ∃ k, w.heap.size ≤ k ∧ (Value.slice A5 m5 c5).ownBlock = some k := hown.imp id (fun ⟨k', h1, h2⟩ => ⟨k', by omega, h2⟩)
      have hno : ∀ x, x < w.heap.size + 2 → some x ≠ (Value.slice A5 m5 c5).ownBlock := fun x hx e => by
        rcases hown with h1 | ⟨k', h1, h2⟩
        · rw [h1] at e; cases e
        · rw [h2] at e; injection e with e; omega
      have hno0 := hno w.heap.size (by omega)
      have hno1 := hno (w.heap.size + 1) (by omega)
      have hno := Lib.hid hno
      have d1 : decide ((k : Int) < (l.length : Int)) = true := decide_eq_true (by omega)
      have d1' : decide (k < l.length) = true := decide_eq_true hm
      have q1 : (k : Int) < (l.length : Int) := by omega
      obtain ⟨f, hf0⟩ : ∃ f, l[k]? = some f := ⟨_, List.getElem?_eq_getElem hm⟩
      obtain ⟨g, o, rfl, hg, cR⟩ := fread_at (h.at_ hB) hf0
      have hdr : l.drop k = f :: l.drop (k + 1) := by
        obtain ⟨h1, rfl⟩ := List.getElem?_eq_some_iff.1 hf0
        exact List.drop_eq_getElem_cons h1
      have hgo2 := hgo.out
      rw [hdr, List.filter_cons] at hgo2
      have cR' : wr.rangeAt g (o + k * 5) [.int .i64 (f.num : Int), .int .i64 (f.lev : Int), .int .i64 (f.size : Int), .string ⟨f.first.toArray⟩, .string ⟨f.last.toArray⟩] := cR
      have hsz : (Try.prog.info? 33).map (·.size) = some [Value.int .i64 (f.num : Int), .int .i64 (f.lev : Int), .int .i64 (f.size : Int), .string ⟨f.first.toArray⟩, .string ⟨f.last.toArray⟩].length := size_fi
      have hw1 : IntKind.i64.wrap ((k : Int) + 1) = ((k + 1 : Nat) : Int) := by rw [IntWalk.i64_in _ (by omega)]; omega
      have hrow1 := hrow.alloc (.cells #[.int .i64 (f.num : Int), .int .i64 (f.lev : Int), .int .i64 (f.size : Int), .string ⟨f.first.toArray⟩, .string ⟨f.last.toArray⟩] 33)
      have X1 := Blk.new wr #[.int .i64 (f.num : Int), .int .i64 (f.lev : Int), .int .i64 (f.size : Int), .string ⟨f.first.toArray⟩, .string ⟨f.last.toArray⟩] 33
      have B0a := B0.alloc (.cells #[.int .i64 (f.num : Int), .int .i64 (f.lev : Int), .int .i64 (f.size : Int), .string ⟨f.first.toArray⟩, .string ⟨f.last.toArray⟩] 33)
      have B1a := B1.alloc (.cells #[.int .i64 (f.num : Int), .int .i64 (f.lev : Int), .int .i64 (f.size : Int), .string ⟨f.first.toArray⟩, .string ⟨f.last.toArray⟩] 33)
      have hB1 := hB.alloc hB.size (.cells #[.int .i64 (f.num : Int), .int .i64 (f.lev : Int), .int .i64 (f.size : Int), .string ⟨f.first.toArray⟩, .string ⟨f.last.toArray⟩] 33)
      have hk1 := Lib.hid (show k + 1 ≤ l.length by omega)
      clear hgo hdr cR hf0 hg
      go_upto_region 5 with (refine wpList_load_mid rfl 33 (.tmp 14) rfl g (o + k * 5) rfl _ _ cR' Try.underlying33 rfl hsz ?_; go_frame)
      refine wp_world fun W1 hW1 => ?_
      rw [← hW1] at hrow1 X1 B0a B1a hB1
      clear hW1 cR' hsz d1 d1' q1 hB B0 B1 hrow
      obtain ⟨⟨x0, x1, x2, x3, x4⟩, -⟩ := free5 X1
      obtain ⟨z0, z1, z2, -, -, -⟩ := free3 B1a
      have F1 := FC.out W1 hB1 f.num
      have T1 := TC.out W1 hB1 f.num
      have hrow2 := RowN.alloc hrow1 (.cells #[.int .i64 (f.num : Int), .int .i64 (f.lev : Int), .int .i64 (f.size : Int), .string ⟨f.first.toArray⟩, .string ⟨f.last.toArray⟩] 33)
      have hB2 := hB1.alloc hB1.size (.cells #[.int .i64 (f.num : Int), .int .i64 (f.lev : Int), .int .i64 (f.size : Int), .string ⟨f.first.toArray⟩, .string ⟨f.last.toArray⟩] 33)
      have qx := new_cellsN W1 (fiC f) _ rfl 33
      have ox := one_fiC f
      have B0b := B0a.alloc (.cells #[.int .i64 (f.num : Int), .int .i64 (f.lev : Int), .int .i64 (f.size : Int), .string ⟨f.first.toArray⟩, .string ⟨f.last.toArray⟩] 33)
      have B1b := B1a.alloc (.cells #[.int .i64 (f.num : Int), .int .i64 (f.lev : Int), .int .i64 (f.size : Int), .string ⟨f.first.toArray⟩, .string ⟨f.last.toArray⟩] 33)
      have hlm : ((acc.map fiC).length + 1) * 56 ≤ 140737488355328 := by rw [List.length_map]; omega
      have hws : w.heap.size + 2 ≤ (W1.alloc (.cells #[.int .i64 (f.num : Int), .int .i64 (f.lev : Int), .int .i64 (f.size : Int), .string ⟨f.first.toArray⟩, .string ⟨f.last.toArray⟩] 33)).heap.size := by have := X1.lt; have := B1a.lt; rw [World.size_alloc]; omega
      by_cases hi1 : f.num ∈ fr
      · rw [decide_eq_true hi1] at F1
        rw [if_pos (by simp [hi1])] at hgo2
        have Hgo := Lib.hid (show M = (acc ++ [f]) ++ (l.drop (k + 1)).filter (fun f => decide (f.num ∈ fr ++ to)) by rw [hgo2]; simp)
        have F1 := Lib.hid F1
        have T1 := Lib.hid T1
        clear hgo2 hi1
        go_wp2_with (first | (go_at_call 16; first | (refine F1.out.mono ?_; rintro e w9 ⟨rfl, hw9⟩; replace hw9 := hw9.symm; subst hw9) | (refine T1.out.mono ?_; rintro e w9 ⟨rfl, hw9⟩; replace hw9 := hw9.symm; subst hw9)) | (at_builtin; (refine wpList_append_rowN rfl info_fi (.tmp 28) (.tmp 30) 27 rfl Try.underlying27 rfl hrow2 ⟨W1.heap.size, 0, none⟩ 1 1 [fiC f] rfl rfl (len_fiC _) qx ox hlm ?_; intro v3 w3 hrow3 hg3 hr3); (have hB3 := below_grown_own hB2 hB2.size hg3 hown2); (have hown3 := own_later hown hws hr3); (have B0c := B0b.grown hg3 hno0; have B1c := B1b.grown hg3 hno1)))
        go_roundw
        case rel => exact ⟨k + 1, acc ++ [f], hk1.out, by rw [List.length_append, List.length_singleton]; omega, rfl, Hgo, frow_snoc hrow3, hown3, B0c, B1c, hB3⟩
        case measure => simp [intOf]; have := hk1.out; omega
      · rw [decide_eq_false hi1] at F1
        have F1 := Lib.hid F1
        by_cases hi2 : f.num ∈ to
        · rw [decide_eq_true hi2] at T1
          rw [if_pos (by simp [hi2])] at hgo2
          have Hgo := Lib.hid (show M = (acc ++ [f]) ++ (l.drop (k + 1)).filter (fun f => decide (f.num ∈ fr ++ to)) by rw [hgo2]; simp)
          have T1 := Lib.hid T1
          clear hgo2 hi1 hi2
          go_wp2_with (first | (go_at_call 16; first | (refine F1.out.mono ?_; rintro e w9 ⟨rfl, hw9⟩; replace hw9 := hw9.symm; subst hw9) | (refine T1.out.mono ?_; rintro e w9 ⟨rfl, hw9⟩; replace hw9 := hw9.symm; subst hw9)) | (at_builtin; (refine wpList_append_rowN rfl info_fi (.tmp 28) (.tmp 30) 27 rfl Try.underlying27 rfl hrow2 ⟨W1.heap.size, 0, none⟩ 1 1 [fiC f] rfl rfl (len_fiC _) qx ox hlm ?_; intro v3 w3 hrow3 hg3 hr3); (have hB3 := below_grown_own hB2 hB2.size hg3 hown2); (have hown3 := own_later hown hws hr3); (have B0c := B0b.grown hg3 hno0; have B1c := B1b.grown hg3 hno1)))
          go_roundw
          case rel => exact ⟨k + 1, acc ++ [f], hk1.out, by rw [List.length_append, List.length_singleton]; omega, rfl, Hgo, frow_snoc hrow3, hown3, B0c, B1c, hB3⟩
          case measure => simp [intOf]; have := hk1.out; omega
        · rw [decide_eq_false hi2] at T1
          rw [if_neg (by simp [hi1, hi2])] at hgo2
          have Hgo := Lib.hid hgo2
          have T1 := Lib.hid T1
          clear hgo2 hi1 hi2
          go_wp2_with (go_at_call 16; first | (refine F1.out.mono ?_; rintro e w9 ⟨rfl, hw9⟩; replace hw9 := hw9.symm; subst hw9) | (refine T1.out.mono ?_; rintro e w9 ⟨rfl, hw9⟩; replace hw9 := hw9.symm; subst hw9))
          go_roundw
          case rel => exact ⟨k + 1, acc, hk1.out, by omega, rfl, Hgo, hrow1, hown, B0a, B1a, hB1⟩
          case measure => simp [intOf]; have := hk1.out; omega
    · have d1 : decide ((k : Int) < (l.length : Int)) = false := decide_eq_false (by omega)
      have d1' : decide (k < l.length) = false := decide_eq_false hm
      have hend := hgo.out
      rw [List.drop_of_length_le (by omega), List.filter_nil, List.append_nil] at hend
      obtain ⟨A5, m5, c5, rfl, hm5, hrow⟩ := frow_open hrow
      have hm50 : 0 < m5 := by rw [hm5, ← hend]; exact List.length_pos_iff.2 hne
      have d2 : ((m5 : Int) == 0) = false := by rw [beq_eq_false_iff_ne]; omega
      have SP := Lib.hid (span_any M _ wr (by rw [hend]; exact hrow.reads) (by rw [hend]; omega) hne)
      obtain ⟨x0, x1, x2, -, -, -⟩ := free3 B0
      have hwl : IntKind.i64.wrap ((lev : Int) + 1) = ((lev + 1 : Nat) : Int) := by rw [IntWalk.i64_in _ (by omega)]; omega
      clear hend hgo hm5
      go_wp2_with (first | (go_at_call 32; refine SP.out.mono ?_; rintro e w2 ⟨a, rfl, ha, hb2⟩; unfold fiV; have hB2 := hB.trans (hb2.mono hB.size); have B0a := (B0.at_ hb2).alloc (.cells #[.int .i64 (a.num : Int), .int .i64 (a.lev : Int), .int .i64 (a.size : Int), .string ⟨a.first.toArray⟩, .string ⟨a.last.toArray⟩] 33); have B1a := (B1.at_ hb2).alloc (.cells #[.int .i64 (a.num : Int), .int .i64 (a.lev : Int), .int .i64 (a.size : Int), .string ⟨a.first.toArray⟩, .string ⟨a.last.toArray⟩] 33); have X1 := Blk.new w2 #[.int .i64 (a.num : Int), .int .i64 (a.lev : Int), .int .i64 (a.size : Int), .string ⟨a.first.toArray⟩, .string ⟨a.last.toArray⟩] 33; have hB3 := hB2.alloc hB2.size (.cells #[.int .i64 (a.num : Int), .int .i64 (a.lev : Int), .int .i64 (a.size : Int), .string ⟨a.first.toArray⟩, .string ⟨a.last.toArray⟩] 33); obtain ⟨y0, y1, y2, -, -, -⟩ := free3 B0a; obtain ⟨z0, -, -, -, -, -⟩ := free3 B1a) | (go_at_call 35; refine (BL.out _ hB3).mono ?_; rintro e w4 ⟨v4, rfl, hr4, -, hb4⟩; have hB4 := hB3.trans (hb4.mono hB3.size); have X4 := X1.at_ hb4) | (go_at_call 14; refine (containsf_any DP _ 36 _ _ _ hr4.reads hDP enters36 (clos_meets a _ _ X4)).mono ?_; rintro e w5 ⟨rfl, hb5⟩))
      go_ret
      exact ⟨by rw [← ha]; rfl, hB4.trans (hb5.mono hB4.size)⟩
end Go.Proofs.Ytnfabofkfnmplaa
