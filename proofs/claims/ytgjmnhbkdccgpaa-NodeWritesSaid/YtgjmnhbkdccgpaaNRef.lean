/- The walks of the document's Flag and Label; of its Good, Check, Write and LeafText. -/
import Derived.Test.YtgjmnhbkdccgpaaNAwake
namespace Go.Proofs.Ytgjmnhbkdccgpaa
open Go.RowKit

set_option maxHeartbeats 1000000 in
theorem rflag_any (b : Bool) (w : World) : Calls Try.prog 48 #[.bool b] w fun e w' => e = .returned (.string ⟨(D.flagB b).toArray⟩) ∧ Below w.heap.size w w' := by
  cases b with
  | false =>
    go_enter Try.func48, Try.ntmps48
    go_wp2
    go_ret
    exact ⟨rfl, Below.refl _ _⟩
  | true =>
    go_enter Try.func48, Try.ntmps48
    go_wp2
    go_ret
    exact ⟨rfl, Below.refl _ _⟩
set_option maxHeartbeats 1000000 in
theorem rlab_any (l : List UInt8) (hl : l.length = 32) (w : World) : Calls Try.prog 80 #[.agg (labA l)] w fun e w' => e = .returned (.string ⟨l.toArray⟩) ∧ Below w.heap.size w w' := by
  have B0 := Blk.new w (labA l) 25
  have hB := below_alloc1 w (.cells (labA l) 25)
  have hc : (convert 36 9 (.slice (some ⟨w.heap.size, 0, none⟩) 32 32)).run Try.prog (w.alloc (.cells (labA l) 25)) = .ok (.string ⟨l.toArray⟩) (w.alloc (.cells (labA l) 25)) :=
    conv_at hl (blk_rangeL (o := 0) (C := l.map byteV) B0 (fun j u h => by rw [Nat.zero_add]; exact h))
  go_enter Try.func80, Try.ntmps80
  go_wp2
  go_ret
  exact ⟨rfl, hB⟩
theorem item_lab1 (n : Int) (p s : List UInt8) (t : Int) : ∀ j, j < (labA p).size → (itemC n p s t).toArray[1 + j]? = (labA p)[j]? := fun j hj => by
  rw [List.getElem?_toArray]
  have hj' : j < (p.map byteV).length := by rw [List.length_map]; rw [labA_size] at hj; exact hj
  rw [itemC_pre n p s t j _ (List.getElem?_eq_getElem hj')]
  unfold labA; rw [List.getElem?_toArray, List.getElem?_eq_getElem hj']
set_option maxRecDepth 100000 in
set_option maxHeartbeats 1000000 in
theorem rgoodI_any (n : Int) (p s : List UInt8) (t : Int) (hp : p.length = 32) (hs : s.length = 32) (w : World) :
    Calls Try.prog 75 #[.agg (itemC n p s t).toArray] w fun e w' => e = .returned (.bool (D.goodI n p t)) ∧ Below w.heap.size w w' := by
  have GG := Lib.hid (fun W => rgood_any n p hp W)
  have hz := size_lab p hp
  have B0 := Blk.new w (itemC n p s t).toArray 72
  have hB := below_alloc1 w (.cells (itemC n p s t).toArray 72)
  have e1 := item_lab1 n p s t
  have hG : D.goodI n p t = (B.good n p && decide (0 ≤ t) && decide (t ≤ 1073741824)) := rfl
  have k0 : (w.alloc (.cells (itemC n p s t).toArray 72)).cell? ⟨w.heap.size, 0, none⟩ = some (.int .i64 n) := B0.cell 0
  have k2 : ∀ W, Below (w.alloc (.cells (itemC n p s t).toArray 72)).heap.size (w.alloc (.cells (itemC n p s t).toArray 72)) W → W.cell? ⟨w.heap.size, 65, none⟩ = some (.int .i64 t) := fun W h => ((B0.at_ h).cell 65).trans (by rw [List.getElem?_toArray]; exact itemC_at n p s t hp hs)
  have K2 := Lib.hid k2
  clear k2
  generalize D.goodI n p t = R at *
  cases hg : B.good n p with
  | false =>
    rw [hg] at GG hG
    simp only [Bool.false_and] at hG
    subst hG
    go_enter Try.func75, Try.ntmps75
    go_wp2_with (first | (refine wpList_load_blk (by rfl) 25 (.tmp 5) (by rfl) (1) (by rfl) (B0) (labA p) (e1) _ Try.underlying25 (by rfl) hz ?_; simp only [Act.put, List.setIfInBounds_toArray, List.set_cons_succ, List.set_cons_zero]) | (go_at_call 110; (with_reducible refine (GG.out _).mono ?_); rintro e w1 ⟨rfl, hb1⟩; have k3 := K2.out _ hb1))
    go_ret
    exact ⟨rfl, hB.trans (hb1.mono hB.size)⟩
  | true =>
    rw [hg] at GG hG
    simp only [Bool.true_and] at hG
    by_cases c1 : 0 ≤ t
    · have d1 : decide (0 ≤ t) = true := by simp; omega
      by_cases c2 : t ≤ 1073741824
      · have d2 : decide (t ≤ 1073741824) = true := by simp; omega
        rw [d1, d2] at hG
        subst hG
        go_enter Try.func75, Try.ntmps75
        go_wp2_with (first | (refine wpList_load_blk (by rfl) 25 (.tmp 5) (by rfl) (1) (by rfl) (B0) (labA p) (e1) _ Try.underlying25 (by rfl) hz ?_; simp only [Act.put, List.setIfInBounds_toArray, List.set_cons_succ, List.set_cons_zero]) | (go_at_call 110; (with_reducible refine (GG.out _).mono ?_); rintro e w1 ⟨rfl, hb1⟩; have k3 := K2.out _ hb1))
        go_ret
        exact ⟨rfl, hB.trans (hb1.mono hB.size)⟩
      · have d2 : decide (t ≤ 1073741824) = false := by simp; omega
        rw [d1, d2] at hG
        subst hG
        go_enter Try.func75, Try.ntmps75
        go_wp2_with (first | (refine wpList_load_blk (by rfl) 25 (.tmp 5) (by rfl) (1) (by rfl) (B0) (labA p) (e1) _ Try.underlying25 (by rfl) hz ?_; simp only [Act.put, List.setIfInBounds_toArray, List.set_cons_succ, List.set_cons_zero]) | (go_at_call 110; (with_reducible refine (GG.out _).mono ?_); rintro e w1 ⟨rfl, hb1⟩; have k3 := K2.out _ hb1))
        go_ret
        exact ⟨rfl, hB.trans (hb1.mono hB.size)⟩
    · have d1 : decide (0 ≤ t) = false := by simp; omega
      rw [d1, Bool.false_and] at hG
      subst hG
      go_enter Try.func75, Try.ntmps75
      go_wp2_with (first | (refine wpList_load_blk (by rfl) 25 (.tmp 5) (by rfl) (1) (by rfl) (B0) (labA p) (e1) _ Try.underlying25 (by rfl) hz ?_; simp only [Act.put, List.setIfInBounds_toArray, List.set_cons_succ, List.set_cons_zero]) | (go_at_call 110; (with_reducible refine (GG.out _).mono ?_); rintro e w1 ⟨rfl, hb1⟩; have k3 := K2.out _ hb1))
      go_ret
      exact ⟨rfl, hB.trans (hb1.mono hB.size)⟩
theorem ord_vals (a b : List UInt8) : B.ord a b = 0 ∧ B.cmn a b = 256 ∨ B.ord a b = 1 ∨ B.ord a b = -1 := by
  unfold B.ord
  split
  · exact .inl ⟨rfl, by assumption⟩
  · split
    · exact .inr (.inl rfl)
    · exact .inr (.inr rfl)
set_option maxRecDepth 100000 in
set_option maxHeartbeats 2000000 in
theorem rchkI_any (n : Int) (p s : List UInt8) (t : Int) (n' : Int) (p' s' : List UInt8) (t' : Int) (hp : p.length = 32) (hs : s.length = 32) (hp' : p'.length = 32) (hs' : s'.length = 32) (w : World) :
    Calls Try.prog 45 #[.agg (itemC n p s t).toArray, .agg (itemC n' p' s' t').toArray] w fun e w' => e = .returned (.int .i64 (D.innerE n p t n' p' t')) ∧ Below w.heap.size w w' := by
  have GA := Lib.hid (fun W => rgoodI_any n p s t hp hs W)
  have GB := Lib.hid (fun W => rgoodI_any n' p' s' t' hp' hs' W)
  have CC := Lib.hid (fun W => rcmn_any p p' hp hp' W)
  have OO := Lib.hid (fun W => rord_any p p' hp hp' W)
  have hzA : (Try.prog.info? 72).map (·.size) = some (itemC n p s t).toArray.size := by rw [List.size_toArray, itemC_length n p s t hp hs]; exact info_ritem
  have hzB : (Try.prog.info? 72).map (·.size) = some (itemC n' p' s' t').toArray.size := by rw [List.size_toArray, itemC_length n' p' s' t' hp' hs']; exact info_ritem
  have eA := item_lab1 n p s t
  have eB := item_lab1 n' p' s' t'
  have kA : (itemC n p s t).toArray[0]? = some (.int .i64 n) := rfl
  have kB : (itemC n' p' s' t').toArray[0]? = some (.int .i64 n') := rfl
  have hz1 := size_lab p hp
  have hz2 := size_lab p' hp'
  have hE : D.innerE n p t n' p' t' = if D.goodI n p t = true ∧ D.goodI n' p' t' = true then (if n ≤ (B.cmn p p' : Nat) ∨ n' ≤ (B.cmn p p' : Nat) ∨ 0 < B.ord p p' then 3 else 0) else 1 := rfl
  have hov := ord_vals p p'
  have hgn : D.goodI n p t = true → n ≤ 256 := fun h => by obtain ⟨k, m, rfl, hk, _⟩ := D.goodI_nat h; omega
  generalize D.innerE n p t n' p' t' = R at *
  generalize D.goodI n p t = ga at *
  generalize D.goodI n' p' t' = gb at *
  have hov' : n ≤ 256 → ¬ n ≤ (B.cmn p p' : Nat) → B.ord p p' = 1 ∨ B.ord p p' = -1 := fun h1 h2 => by
    rcases hov with ⟨_, h⟩ | h | h
    · omega
    · exact .inl h
    · exact .inr h
  clear hov
  generalize ((B.cmn p p' : Nat) : Int) = c at *
  generalize B.ord p p' = od at *
  have B1 := (Blk.new w (itemC n p s t).toArray 72).alloc (.cells (itemC n' p' s' t').toArray 72)
  have B2 := blk_new1 w (.cells (itemC n p s t).toArray 72) (itemC n' p' s' t').toArray 72
  have hB := (below_alloc1 w (.cells (itemC n p s t).toArray 72)).alloc (o := .cells (itemC n' p' s' t').toArray 72) (by simp)
  generalize (itemC n p s t).toArray = IA at *
  generalize (itemC n' p' s' t').toArray = IB at *
  generalize hw0 : (w.alloc (.cells IA 72)).alloc (.cells IB 72) = w0 at *
  cases ga with
  | false =>
    rw [if_neg (by simp)] at hE
    subst hE
    go_enter Try.func45, Try.ntmps45
    go_wp2_with (first | ((refine wpList_load_blk (by rfl) 72 (.tmp 2) (by rfl) 0 (by rfl) (B1) (IA) whole_at _ Try.underlying72 (by rfl) hzA ?_; simp only [Act.put, List.setIfInBounds_toArray, List.set_cons_succ, List.set_cons_zero])) | ((refine wpList_load_blk (by rfl) 72 (.tmp 3) (by rfl) 0 (by rfl) (B2) (IB) whole_at _ Try.underlying72 (by rfl) hzB ?_; simp only [Act.put, List.setIfInBounds_toArray, List.set_cons_succ, List.set_cons_zero])) | (refine wpList_load_blk (by rfl) 25 (.tmp 14) (by rfl) (1) (by rfl) (B1) (labA p) (eA) _ Try.underlying25 (by rfl) hz1 ?_; simp only [Act.put, List.setIfInBounds_toArray, List.set_cons_succ, List.set_cons_zero]) | (refine wpList_load_blk (by rfl) 25 (.tmp 16) (by rfl) (1) (by rfl) (B2) (labA p') (eB) _ Try.underlying25 (by rfl) hz2 ?_; simp only [Act.put, List.setIfInBounds_toArray, List.set_cons_succ, List.set_cons_zero]) | (refine wpList_load_blk (by rfl) 25 (.tmp 30) (by rfl) (1) (by rfl) (B1) (labA p) (eA) _ Try.underlying25 (by rfl) hz1 ?_; simp only [Act.put, List.setIfInBounds_toArray, List.set_cons_succ, List.set_cons_zero]) | (refine wpList_load_blk (by rfl) 25 (.tmp 32) (by rfl) (1) (by rfl) (B2) (labA p') (eB) _ Try.underlying25 (by rfl) hz2 ?_; simp only [Act.put, List.setIfInBounds_toArray, List.set_cons_succ, List.set_cons_zero]) | (go_at_call 75; first | ((with_reducible refine (GA.out _).mono ?_); rintro e w1 ⟨rfl, h1⟩; replace B1 := B1.at_ h1; replace B2 := B2.at_ h1; replace hB := hB.trans (h1.mono hB.size); clear h1; have c1 := B1.cellv kA; have c2 := B2.cellv kB) | ((with_reducible refine (GB.out _).mono ?_); rintro e w1 ⟨rfl, h1⟩; replace B1 := B1.at_ h1; replace B2 := B2.at_ h1; replace hB := hB.trans (h1.mono hB.size); clear h1; have c1 := B1.cellv kA; have c2 := B2.cellv kB)) | ((go_at_call 76; (with_reducible refine (CC.out _).mono ?_)); rintro e w1 ⟨rfl, h1⟩; replace B1 := B1.at_ h1; replace B2 := B2.at_ h1; replace hB := hB.trans (h1.mono hB.size); clear h1; have c1 := B1.cellv kA; have c2 := B2.cellv kB) | ((go_at_call 77; (with_reducible refine (OO.out _).mono ?_)); rintro e w1 ⟨rfl, h1⟩; replace B1 := B1.at_ h1; replace B2 := B2.at_ h1; replace hB := hB.trans (h1.mono hB.size); clear h1; have c1 := B1.cellv kA; have c2 := B2.cellv kB))
    go_ret
    exact ⟨rfl, hB⟩
  | true =>
    cases gb with
    | false =>
      rw [if_neg (by simp)] at hE
      subst hE
      go_enter Try.func45, Try.ntmps45
      go_wp2_with (first | ((refine wpList_load_blk (by rfl) 72 (.tmp 2) (by rfl) 0 (by rfl) (B1) (IA) whole_at _ Try.underlying72 (by rfl) hzA ?_; simp only [Act.put, List.setIfInBounds_toArray, List.set_cons_succ, List.set_cons_zero])) | ((refine wpList_load_blk (by rfl) 72 (.tmp 3) (by rfl) 0 (by rfl) (B2) (IB) whole_at _ Try.underlying72 (by rfl) hzB ?_; simp only [Act.put, List.setIfInBounds_toArray, List.set_cons_succ, List.set_cons_zero])) | (refine wpList_load_blk (by rfl) 25 (.tmp 14) (by rfl) (1) (by rfl) (B1) (labA p) (eA) _ Try.underlying25 (by rfl) hz1 ?_; simp only [Act.put, List.setIfInBounds_toArray, List.set_cons_succ, List.set_cons_zero]) | (refine wpList_load_blk (by rfl) 25 (.tmp 16) (by rfl) (1) (by rfl) (B2) (labA p') (eB) _ Try.underlying25 (by rfl) hz2 ?_; simp only [Act.put, List.setIfInBounds_toArray, List.set_cons_succ, List.set_cons_zero]) | (refine wpList_load_blk (by rfl) 25 (.tmp 30) (by rfl) (1) (by rfl) (B1) (labA p) (eA) _ Try.underlying25 (by rfl) hz1 ?_; simp only [Act.put, List.setIfInBounds_toArray, List.set_cons_succ, List.set_cons_zero]) | (refine wpList_load_blk (by rfl) 25 (.tmp 32) (by rfl) (1) (by rfl) (B2) (labA p') (eB) _ Try.underlying25 (by rfl) hz2 ?_; simp only [Act.put, List.setIfInBounds_toArray, List.set_cons_succ, List.set_cons_zero]) | (go_at_call 75; first | ((with_reducible refine (GA.out _).mono ?_); rintro e w1 ⟨rfl, h1⟩; replace B1 := B1.at_ h1; replace B2 := B2.at_ h1; replace hB := hB.trans (h1.mono hB.size); clear h1; have c1 := B1.cellv kA; have c2 := B2.cellv kB) | ((with_reducible refine (GB.out _).mono ?_); rintro e w1 ⟨rfl, h1⟩; replace B1 := B1.at_ h1; replace B2 := B2.at_ h1; replace hB := hB.trans (h1.mono hB.size); clear h1; have c1 := B1.cellv kA; have c2 := B2.cellv kB)) | ((go_at_call 76; (with_reducible refine (CC.out _).mono ?_)); rintro e w1 ⟨rfl, h1⟩; replace B1 := B1.at_ h1; replace B2 := B2.at_ h1; replace hB := hB.trans (h1.mono hB.size); clear h1; have c1 := B1.cellv kA; have c2 := B2.cellv kB) | ((go_at_call 77; (with_reducible refine (OO.out _).mono ?_)); rintro e w1 ⟨rfl, h1⟩; replace B1 := B1.at_ h1; replace B2 := B2.at_ h1; replace hB := hB.trans (h1.mono hB.size); clear h1; have c1 := B1.cellv kA; have c2 := B2.cellv kB))
      go_ret
      exact ⟨rfl, hB⟩
    | true =>
      rw [if_pos ⟨rfl, rfl⟩] at hE
      have hn := hgn rfl
      by_cases c1 : n ≤ c
      · have d1 : decide (n ≤ c) = true := by simp; omega
        have d1' : decide (c ≥ n) = true := by simp; omega
        rw [if_pos (by omega)] at hE
        subst hE
        go_enter Try.func45, Try.ntmps45
        go_wp2_with (first | ((refine wpList_load_blk (by rfl) 72 (.tmp 2) (by rfl) 0 (by rfl) (B1) (IA) whole_at _ Try.underlying72 (by rfl) hzA ?_; simp only [Act.put, List.setIfInBounds_toArray, List.set_cons_succ, List.set_cons_zero])) | ((refine wpList_load_blk (by rfl) 72 (.tmp 3) (by rfl) 0 (by rfl) (B2) (IB) whole_at _ Try.underlying72 (by rfl) hzB ?_; simp only [Act.put, List.setIfInBounds_toArray, List.set_cons_succ, List.set_cons_zero])) | (refine wpList_load_blk (by rfl) 25 (.tmp 14) (by rfl) (1) (by rfl) (B1) (labA p) (eA) _ Try.underlying25 (by rfl) hz1 ?_; simp only [Act.put, List.setIfInBounds_toArray, List.set_cons_succ, List.set_cons_zero]) | (refine wpList_load_blk (by rfl) 25 (.tmp 16) (by rfl) (1) (by rfl) (B2) (labA p') (eB) _ Try.underlying25 (by rfl) hz2 ?_; simp only [Act.put, List.setIfInBounds_toArray, List.set_cons_succ, List.set_cons_zero]) | (refine wpList_load_blk (by rfl) 25 (.tmp 30) (by rfl) (1) (by rfl) (B1) (labA p) (eA) _ Try.underlying25 (by rfl) hz1 ?_; simp only [Act.put, List.setIfInBounds_toArray, List.set_cons_succ, List.set_cons_zero]) | (refine wpList_load_blk (by rfl) 25 (.tmp 32) (by rfl) (1) (by rfl) (B2) (labA p') (eB) _ Try.underlying25 (by rfl) hz2 ?_; simp only [Act.put, List.setIfInBounds_toArray, List.set_cons_succ, List.set_cons_zero]) | (go_at_call 75; first | ((with_reducible refine (GA.out _).mono ?_); rintro e w1 ⟨rfl, h1⟩; replace B1 := B1.at_ h1; replace B2 := B2.at_ h1; replace hB := hB.trans (h1.mono hB.size); clear h1; have c1 := B1.cellv kA; have c2 := B2.cellv kB) | ((with_reducible refine (GB.out _).mono ?_); rintro e w1 ⟨rfl, h1⟩; replace B1 := B1.at_ h1; replace B2 := B2.at_ h1; replace hB := hB.trans (h1.mono hB.size); clear h1; have c1 := B1.cellv kA; have c2 := B2.cellv kB)) | ((go_at_call 76; (with_reducible refine (CC.out _).mono ?_)); rintro e w1 ⟨rfl, h1⟩; replace B1 := B1.at_ h1; replace B2 := B2.at_ h1; replace hB := hB.trans (h1.mono hB.size); clear h1; have c1 := B1.cellv kA; have c2 := B2.cellv kB) | ((go_at_call 77; (with_reducible refine (OO.out _).mono ?_)); rintro e w1 ⟨rfl, h1⟩; replace B1 := B1.at_ h1; replace B2 := B2.at_ h1; replace hB := hB.trans (h1.mono hB.size); clear h1; have c1 := B1.cellv kA; have c2 := B2.cellv kB))
        go_ret
        exact ⟨rfl, hB⟩
      · have d1 : decide (n ≤ c) = false := by simp; omega
        have d1' : decide (c ≥ n) = false := by simp; omega
        have ho := hov' hn c1
        by_cases c2 : n' ≤ c
        · have d2 : decide (n' ≤ c) = true := by simp; omega
          have d2' : decide (c ≥ n') = true := by simp; omega
          rw [if_pos (by omega)] at hE
          subst hE
          clear ho
          go_enter Try.func45, Try.ntmps45
          go_wp2_with (first | ((refine wpList_load_blk (by rfl) 72 (.tmp 2) (by rfl) 0 (by rfl) (B1) (IA) whole_at _ Try.underlying72 (by rfl) hzA ?_; simp only [Act.put, List.setIfInBounds_toArray, List.set_cons_succ, List.set_cons_zero])) | ((refine wpList_load_blk (by rfl) 72 (.tmp 3) (by rfl) 0 (by rfl) (B2) (IB) whole_at _ Try.underlying72 (by rfl) hzB ?_; simp only [Act.put, List.setIfInBounds_toArray, List.set_cons_succ, List.set_cons_zero])) | (refine wpList_load_blk (by rfl) 25 (.tmp 14) (by rfl) (1) (by rfl) (B1) (labA p) (eA) _ Try.underlying25 (by rfl) hz1 ?_; simp only [Act.put, List.setIfInBounds_toArray, List.set_cons_succ, List.set_cons_zero]) | (refine wpList_load_blk (by rfl) 25 (.tmp 16) (by rfl) (1) (by rfl) (B2) (labA p') (eB) _ Try.underlying25 (by rfl) hz2 ?_; simp only [Act.put, List.setIfInBounds_toArray, List.set_cons_succ, List.set_cons_zero]) | (refine wpList_load_blk (by rfl) 25 (.tmp 30) (by rfl) (1) (by rfl) (B1) (labA p) (eA) _ Try.underlying25 (by rfl) hz1 ?_; simp only [Act.put, List.setIfInBounds_toArray, List.set_cons_succ, List.set_cons_zero]) | (refine wpList_load_blk (by rfl) 25 (.tmp 32) (by rfl) (1) (by rfl) (B2) (labA p') (eB) _ Try.underlying25 (by rfl) hz2 ?_; simp only [Act.put, List.setIfInBounds_toArray, List.set_cons_succ, List.set_cons_zero]) | (go_at_call 75; first | ((with_reducible refine (GA.out _).mono ?_); rintro e w1 ⟨rfl, h1⟩; replace B1 := B1.at_ h1; replace B2 := B2.at_ h1; replace hB := hB.trans (h1.mono hB.size); clear h1; have c1 := B1.cellv kA; have c2 := B2.cellv kB) | ((with_reducible refine (GB.out _).mono ?_); rintro e w1 ⟨rfl, h1⟩; replace B1 := B1.at_ h1; replace B2 := B2.at_ h1; replace hB := hB.trans (h1.mono hB.size); clear h1; have c1 := B1.cellv kA; have c2 := B2.cellv kB)) | ((go_at_call 76; (with_reducible refine (CC.out _).mono ?_)); rintro e w1 ⟨rfl, h1⟩; replace B1 := B1.at_ h1; replace B2 := B2.at_ h1; replace hB := hB.trans (h1.mono hB.size); clear h1; have c1 := B1.cellv kA; have c2 := B2.cellv kB) | ((go_at_call 77; (with_reducible refine (OO.out _).mono ?_)); rintro e w1 ⟨rfl, h1⟩; replace B1 := B1.at_ h1; replace B2 := B2.at_ h1; replace hB := hB.trans (h1.mono hB.size); clear h1; have c1 := B1.cellv kA; have c2 := B2.cellv kB))
          go_ret
          exact ⟨rfl, hB⟩
        · have d2 : decide (n' ≤ c) = false := by simp; omega
          have d2' : decide (c ≥ n') = false := by simp; omega
          rcases ho with rfl | rfl
          · rw [if_pos (by omega)] at hE
            subst hE
            go_enter Try.func45, Try.ntmps45
            go_wp2_with (first | ((refine wpList_load_blk (by rfl) 72 (.tmp 2) (by rfl) 0 (by rfl) (B1) (IA) whole_at _ Try.underlying72 (by rfl) hzA ?_; simp only [Act.put, List.setIfInBounds_toArray, List.set_cons_succ, List.set_cons_zero])) | ((refine wpList_load_blk (by rfl) 72 (.tmp 3) (by rfl) 0 (by rfl) (B2) (IB) whole_at _ Try.underlying72 (by rfl) hzB ?_; simp only [Act.put, List.setIfInBounds_toArray, List.set_cons_succ, List.set_cons_zero])) | (refine wpList_load_blk (by rfl) 25 (.tmp 14) (by rfl) (1) (by rfl) (B1) (labA p) (eA) _ Try.underlying25 (by rfl) hz1 ?_; simp only [Act.put, List.setIfInBounds_toArray, List.set_cons_succ, List.set_cons_zero]) | (refine wpList_load_blk (by rfl) 25 (.tmp 16) (by rfl) (1) (by rfl) (B2) (labA p') (eB) _ Try.underlying25 (by rfl) hz2 ?_; simp only [Act.put, List.setIfInBounds_toArray, List.set_cons_succ, List.set_cons_zero]) | (refine wpList_load_blk (by rfl) 25 (.tmp 30) (by rfl) (1) (by rfl) (B1) (labA p) (eA) _ Try.underlying25 (by rfl) hz1 ?_; simp only [Act.put, List.setIfInBounds_toArray, List.set_cons_succ, List.set_cons_zero]) | (refine wpList_load_blk (by rfl) 25 (.tmp 32) (by rfl) (1) (by rfl) (B2) (labA p') (eB) _ Try.underlying25 (by rfl) hz2 ?_; simp only [Act.put, List.setIfInBounds_toArray, List.set_cons_succ, List.set_cons_zero]) | (go_at_call 75; first | ((with_reducible refine (GA.out _).mono ?_); rintro e w1 ⟨rfl, h1⟩; replace B1 := B1.at_ h1; replace B2 := B2.at_ h1; replace hB := hB.trans (h1.mono hB.size); clear h1; have c1 := B1.cellv kA; have c2 := B2.cellv kB) | ((with_reducible refine (GB.out _).mono ?_); rintro e w1 ⟨rfl, h1⟩; replace B1 := B1.at_ h1; replace B2 := B2.at_ h1; replace hB := hB.trans (h1.mono hB.size); clear h1; have c1 := B1.cellv kA; have c2 := B2.cellv kB)) | ((go_at_call 76; (with_reducible refine (CC.out _).mono ?_)); rintro e w1 ⟨rfl, h1⟩; replace B1 := B1.at_ h1; replace B2 := B2.at_ h1; replace hB := hB.trans (h1.mono hB.size); clear h1; have c1 := B1.cellv kA; have c2 := B2.cellv kB) | ((go_at_call 77; (with_reducible refine (OO.out _).mono ?_)); rintro e w1 ⟨rfl, h1⟩; replace B1 := B1.at_ h1; replace B2 := B2.at_ h1; replace hB := hB.trans (h1.mono hB.size); clear h1; have c1 := B1.cellv kA; have c2 := B2.cellv kB))
            go_ret
            exact ⟨rfl, hB⟩
          · rw [if_neg (by omega)] at hE
            subst hE
            go_enter Try.func45, Try.ntmps45
            go_wp2_with (first | ((refine wpList_load_blk (by rfl) 72 (.tmp 2) (by rfl) 0 (by rfl) (B1) (IA) whole_at _ Try.underlying72 (by rfl) hzA ?_; simp only [Act.put, List.setIfInBounds_toArray, List.set_cons_succ, List.set_cons_zero])) | ((refine wpList_load_blk (by rfl) 72 (.tmp 3) (by rfl) 0 (by rfl) (B2) (IB) whole_at _ Try.underlying72 (by rfl) hzB ?_; simp only [Act.put, List.setIfInBounds_toArray, List.set_cons_succ, List.set_cons_zero])) | (refine wpList_load_blk (by rfl) 25 (.tmp 14) (by rfl) (1) (by rfl) (B1) (labA p) (eA) _ Try.underlying25 (by rfl) hz1 ?_; simp only [Act.put, List.setIfInBounds_toArray, List.set_cons_succ, List.set_cons_zero]) | (refine wpList_load_blk (by rfl) 25 (.tmp 16) (by rfl) (1) (by rfl) (B2) (labA p') (eB) _ Try.underlying25 (by rfl) hz2 ?_; simp only [Act.put, List.setIfInBounds_toArray, List.set_cons_succ, List.set_cons_zero]) | (refine wpList_load_blk (by rfl) 25 (.tmp 30) (by rfl) (1) (by rfl) (B1) (labA p) (eA) _ Try.underlying25 (by rfl) hz1 ?_; simp only [Act.put, List.setIfInBounds_toArray, List.set_cons_succ, List.set_cons_zero]) | (refine wpList_load_blk (by rfl) 25 (.tmp 32) (by rfl) (1) (by rfl) (B2) (labA p') (eB) _ Try.underlying25 (by rfl) hz2 ?_; simp only [Act.put, List.setIfInBounds_toArray, List.set_cons_succ, List.set_cons_zero]) | (go_at_call 75; first | ((with_reducible refine (GA.out _).mono ?_); rintro e w1 ⟨rfl, h1⟩; replace B1 := B1.at_ h1; replace B2 := B2.at_ h1; replace hB := hB.trans (h1.mono hB.size); clear h1; have c1 := B1.cellv kA; have c2 := B2.cellv kB) | ((with_reducible refine (GB.out _).mono ?_); rintro e w1 ⟨rfl, h1⟩; replace B1 := B1.at_ h1; replace B2 := B2.at_ h1; replace hB := hB.trans (h1.mono hB.size); clear h1; have c1 := B1.cellv kA; have c2 := B2.cellv kB)) | ((go_at_call 76; (with_reducible refine (CC.out _).mono ?_)); rintro e w1 ⟨rfl, h1⟩; replace B1 := B1.at_ h1; replace B2 := B2.at_ h1; replace hB := hB.trans (h1.mono hB.size); clear h1; have c1 := B1.cellv kA; have c2 := B2.cellv kB) | ((go_at_call 77; (with_reducible refine (OO.out _).mono ?_)); rintro e w1 ⟨rfl, h1⟩; replace B1 := B1.at_ h1; replace B2 := B2.at_ h1; replace hB := hB.trans (h1.mono hB.size); clear h1; have c1 := B1.cellv kA; have c2 := B2.cellv kB))
            go_ret
            exact ⟨rfl, hB⟩
set_option maxRecDepth 100000 in
set_option maxHeartbeats 1000000 in
theorem rwrite_any (n : Nat) (p s : List UInt8) (t : Nat) (hn : n < 9223372036854775808) (ht : t < 9223372036854775808) (hp : p.length = 32) (hs : s.length = 32) (w : World) :
    Calls Try.prog 49 #[.agg (itemC n p s t).toArray] w fun e w' => e = .returned (.string ⟨(D.itemW n p s t).toArray⟩) ∧ Below w.heap.size w w' := by
  have EN := Lib.hid (fun W => rnum_any n hn W)
  have ET := Lib.hid (fun W => rnum_any t ht W)
  have LP := Lib.hid (fun W => rlab_any p hp W)
  have LS := Lib.hid (fun W => rlab_any s hs W)
  have l1 := D.numB_le9 n (by omega)
  have l2 := D.numB_le9 t (by omega)
  have sa1 := str_add (D.numB n) p (by omega)
  have sa2 := str_add (D.numB n ++ p) s (by rw [List.length_append]; omega)
  have sa3 := str_add (D.numB n ++ p ++ s) (D.numB t) (by rw [List.length_append, List.length_append]; omega)
  rw [show D.numB n ++ p ++ s ++ D.numB t = D.itemW n p s t from rfl] at sa3
  have B0 : Blk (w.alloc (.cells (itemC n p s t).toArray 72)) w.heap.size (itemC n p s t).toArray 72 := Blk.new _ _ _
  have hB := below_alloc1 w (.cells (itemC n p s t).toArray 72)
  go_enter Try.func49, Try.ntmps49
  go_wp2
  generalize w.alloc (.cells (itemC n p s t).toArray 72) = w0 at *
  have hlt : w.heap.size < w0.drew.heap.size := B0.lt
  have r1 : w0.drew.rangeAt w.heap.size 1 (p.map byteV) := blk_rangeL (o := 1) B0.drew (itemC_pre n p s t)
  have r2 : w0.drew.rangeAt w.heap.size 33 (s.map byteV) := blk_rangeL (o := 33) B0.drew (itemC_sum n p s t hp)
  have r3 : w0.drew.cell? ⟨w.heap.size, 65, none⟩ = some (.int .i64 t) := (B0.drew.cell 65).trans (by rw [List.getElem?_toArray]; exact itemC_at n p s t hp hs)
  have r0 : w0.drew.cell? ⟨w.heap.size, 0, none⟩ = some (.int .i64 n) := (B0.drew.cell 0).trans (by rw [List.getElem?_toArray]; rfl)
  have hc0 : ∀ W, Stp w0.drew W → W.cell? ⟨w.heap.size, 0, none⟩ = some (.int .i64 n) := fun W h => (Below.cell (p := ⟨w.heap.size, 0, none⟩) h hlt).trans r0
  have hc3 : ∀ W, Stp w0.drew W → W.cell? ⟨w.heap.size, 65, none⟩ = some (.int .i64 t) := fun W h => (Below.cell (p := ⟨w.heap.size, 65, none⟩) h hlt).trans r3
  clear r0 r3 B0 l1 l2
  generalize hR3 : (⟨(D.itemW n p s t).toArray⟩ : ByteArray) = R3 at *
  have HR3 := Lib.hid hR3
  clear hR3
  generalize (⟨(D.numB n ++ p ++ s).toArray⟩ : ByteArray) = R2 at *
  generalize (⟨(D.numB n ++ p).toArray⟩ : ByteArray) = R1 at *
  generalize (⟨(D.numB n).toArray⟩ : ByteArray) = EN1 at *
  generalize (⟨(D.numB t).toArray⟩ : ByteArray) = ET1 at *
  generalize (⟨p.toArray⟩ : ByteArray) = P at *
  generalize (⟨s.toArray⟩ : ByteArray) = S at *
  apply wp_region_rel_below [[(1, none)], [(3, some 0)], [(4, some 1)], [(1, none)], [(6, some 3)], [(7, some 4)], [(5, some 2), (8, some 5)], [(1, none)], [(10, some 7)], [(11, some 8)], [(9, some 6), (12, some 9)], [(1, none)], [(14, some 11)], [(15, some 12)], [(13, some 10), (16, some 13)], [(17, some 14)]] [eqv _, eqv _, eqv _, eqv _, eqv _, eqv _, eqv _, eqv _, eqv _, eqv _, eqv _, eqv _, eqv _, eqv _, eqv _, eqv _] (by kernel_rfl) (by kernel_rfl)
  case hobs =>
    refine ⟨?_, ?_⟩
    · rintro L a1 w1 hT - - ⟨h1, -⟩   -- 0: Op.fieldAddr 72 t1 0
      have e1 : a1.tmps.getD 1 undef = _ := h1
      have f1 := getD_form e1
      clear h1
      go_simp; exact left_intro rfl (Stp.refl _) trivial
    refine ⟨?_, ?_⟩
    · rintro L a1 w1 hT - - ⟨h3, -⟩   -- 1: Op.load 3 t3
      have e3 : a1.tmps.getD 3 undef = _ := h3
      have f3 := getD_form e3
      clear h3
      have c0 := hc0 w1 hT
      go_simp; exact left_intro rfl (Stp.refl _) trivial
    refine ⟨?_, ?_⟩
    · rintro L a1 w1 hT - - ⟨h4, -⟩   -- 2: Op.call { value (Operand.func 68), args := #[t4], argTypes := #[3] }
      have e4 : a1.tmps.getD 4 undef = _ := h4
      have f4 := getD_form e4
      clear h4
      go_simp; go_at_call 68; (with_reducible refine (EN.out _).mono ?_); rintro e w2 ⟨rfl, hb⟩; exact left_intro rfl (Stp.of hb) trivial
    refine ⟨?_, ?_⟩
    · rintro L a1 w1 hT - - ⟨h1, -⟩   -- 3: Op.fieldAddr 72 t1 1
      have e1 : a1.tmps.getD 1 undef = _ := h1
      have f1 := getD_form e1
      clear h1
      go_simp; exact left_intro rfl (Stp.refl _) trivial
    refine ⟨?_, ?_⟩
    · rintro L a1 w1 hT - - ⟨h6, -⟩   -- 4: Op.load 25 t6
      have e6 : a1.tmps.getD 6 undef = _ := h6
      have f6 := getD_form e6
      clear h6
      exact wp_load_labR (.tmp 6) rfl e6 (range_stp r1 hlt hT) hp (left_intro rfl (Stp.refl _) trivial)
    refine ⟨?_, ?_⟩
    · rintro L a1 w1 hT - - ⟨h7, -⟩   -- 5: Op.call { value (Operand.func 80), args := #[t7], argTypes := #[25] }
      have e7 : a1.tmps.getD 7 undef = _ := h7
      have f7 := getD_form e7
      clear h7
      go_simp; go_at_call 80; (with_reducible refine (LP.out _).mono ?_); rintro e w2 ⟨rfl, hb⟩; exact left_intro rfl (Stp.of hb) trivial
    refine ⟨?_, ?_⟩
    · rintro L a1 w1 hT - - ⟨h5, h8, -⟩   -- 6: Op.binOp BinOp.add 9 t5 t8 9
      have e5 : a1.tmps.getD 5 undef = _ := h5
      have f5 := getD_form e5
      have e8 : a1.tmps.getD 8 undef = _ := h8
      have f8 := getD_form e8
      clear h5 h8
      go_simp; exact left_intro rfl (Stp.refl _) trivial
    refine ⟨?_, ?_⟩
    · rintro L a1 w1 hT - - ⟨h1, -⟩   -- 7: Op.fieldAddr 72 t1 2
      have e1 : a1.tmps.getD 1 undef = _ := h1
      have f1 := getD_form e1
      clear h1
      go_simp; exact left_intro rfl (Stp.refl _) trivial
    refine ⟨?_, ?_⟩
    · rintro L a1 w1 hT - - ⟨h10, -⟩   -- 8: Op.load 25 t10
      have e10 : a1.tmps.getD 10 undef = _ := h10
      have f10 := getD_form e10
      clear h10
      exact wp_load_labR (.tmp 10) rfl e10 (range_stp r2 hlt hT) hs (left_intro rfl (Stp.refl _) trivial)
    refine ⟨?_, ?_⟩
    · rintro L a1 w1 hT - - ⟨h11, -⟩   -- 9: Op.call { value (Operand.func 80), args := #[t11], argTypes := #[25] }
      have e11 : a1.tmps.getD 11 undef = _ := h11
      have f11 := getD_form e11
      clear h11
      go_simp; go_at_call 80; (with_reducible refine (LS.out _).mono ?_); rintro e w2 ⟨rfl, hb⟩; exact left_intro rfl (Stp.of hb) trivial
    refine ⟨?_, ?_⟩
    · rintro L a1 w1 hT - - ⟨h9, h12, -⟩   -- 10: Op.binOp BinOp.add 9 t9 t12 9
      have e9 : a1.tmps.getD 9 undef = _ := h9
      have f9 := getD_form e9
      have e12 : a1.tmps.getD 12 undef = _ := h12
      have f12 := getD_form e12
      clear h9 h12
      go_simp; exact left_intro rfl (Stp.refl _) trivial
    refine ⟨?_, ?_⟩
    · rintro L a1 w1 hT - - ⟨h1, -⟩   -- 11: Op.fieldAddr 72 t1 3
      have e1 : a1.tmps.getD 1 undef = _ := h1
      have f1 := getD_form e1
      clear h1
      go_simp; exact left_intro rfl (Stp.refl _) trivial
    refine ⟨?_, ?_⟩
    · rintro L a1 w1 hT - - ⟨h14, -⟩   -- 12: Op.load 3 t14
      have e14 : a1.tmps.getD 14 undef = _ := h14
      have f14 := getD_form e14
      clear h14
      have c15 := hc3 w1 hT
      go_simp; exact left_intro rfl (Stp.refl _) trivial
    refine ⟨?_, ?_⟩
    · rintro L a1 w1 hT - - ⟨h15, -⟩   -- 13: Op.call { value (Operand.func 68), args := #[t15], argTypes := #[3] }
      have e15 : a1.tmps.getD 15 undef = _ := h15
      have f15 := getD_form e15
      clear h15
      go_simp; go_at_call 68; (with_reducible refine (ET.out _).mono ?_); rintro e w2 ⟨rfl, hb⟩; exact left_intro rfl (Stp.of hb) trivial
    refine ⟨?_, ?_⟩
    · rintro L a1 w1 hT - - ⟨h13, h16, -⟩   -- 14: Op.binOp BinOp.add 9 t13 t16 9
      have e13 : a1.tmps.getD 13 undef = _ := h13
      have f13 := getD_form e13
      have e16 : a1.tmps.getD 16 undef = _ := h16
      have f16 := getD_form e16
      clear h13 h16
      go_simp; exact left_intro rfl (Stp.refl _) trivial
    refine ⟨?_, ?_⟩
    · rintro L a1 w1 hT - - ⟨h17, -⟩   -- 15: Op.assign t17
      have e17 : a1.tmps.getD 17 undef = _ := h17
      have f17 := getD_form e17
      clear h17
      go_simp; exact left_intro rfl (Stp.refl _) trivial
    trivial
  case hmono => repeat (first | exact trivial | refine ⟨fun _ _ _ _ h => h, ?_⟩)
  case hend =>
    intro w2 hT
    rintro _ rfl _ rfl _ rfl _ rfl _ rfl _ rfl _ rfl _ rfl _ rfl _ rfl _ rfl _ rfl _ rfl _ rfl _ rfl _ rfl
    simp only [relEnd, Act.put, List.setIfInBounds_toArray, List.set_cons_succ, List.set_cons_zero]
    have hB2 := hB.trans (Below.mono hT hB.size)
    go_wp2
    go_ret
    exact ⟨by rw [HR3.out]; rfl, hB2⟩
set_option maxRecDepth 100000 in
set_option maxHeartbeats 1000000 in
theorem rleafW_any (l v : List UInt8) (t : Nat) (ht : t < 9223372036854775808) (hl : l.length = 32) (hv : v.length = 32) (w : World) :
    Calls Try.prog 50 #[.agg (leafC l v t).toArray] w fun e w' => e = .returned (.string ⟨(D.leafW l v t).toArray⟩) ∧ Below w.heap.size w w' := by
  have FF := Lib.hid (fun W => rflag_any false W)
  have ET := Lib.hid (fun W => rnum_any t ht W)
  have LP := Lib.hid (fun W => rlab_any l hl W)
  have LS := Lib.hid (fun W => rlab_any v hv W)
  have l1 : (D.flagB false).length = 1 := rfl
  have l2 := D.numB_le9 t (by omega)
  have sa1 := str_add (D.flagB false) l (by omega)
  have sa2 := str_add (D.flagB false ++ l) v (by rw [List.length_append]; omega)
  have sa3 := str_add (D.flagB false ++ l ++ v) (D.numB t) (by rw [List.length_append, List.length_append]; omega)
  rw [show D.flagB false ++ l ++ v ++ D.numB t = D.leafW l v t from rfl] at sa3
  have B0 : Blk (w.alloc (.cells (leafC l v t).toArray 77)) w.heap.size (leafC l v t).toArray 77 := Blk.new _ _ _
  have hB := below_alloc1 w (.cells (leafC l v t).toArray 77)
  go_enter Try.func50, Try.ntmps50
  go_wp2
  generalize w.alloc (.cells (leafC l v t).toArray 77) = w0 at *
  have hlt : w.heap.size < w0.drew.heap.size := B0.lt
  have r1 : w0.drew.rangeAt w.heap.size 0 (l.map byteV) := blk_rangeL (o := 0) B0.drew (fun j u h => by rw [Nat.zero_add]; exact leafC_lab l v t j u h)
  have r2 : w0.drew.rangeAt w.heap.size 32 (v.map byteV) := blk_rangeL (o := 32) B0.drew (leafC_val l v t hl)
  have r3 : w0.drew.cell? ⟨w.heap.size, 64, none⟩ = some (.int .i64 t) := (B0.drew.cell 64).trans (by rw [List.getElem?_toArray]; exact leafC_at l v t hl hv)
  have hc3 : ∀ W, Stp w0.drew W → W.cell? ⟨w.heap.size, 64, none⟩ = some (.int .i64 t) := fun W h => (Below.cell (p := ⟨w.heap.size, 64, none⟩) h hlt).trans r3
  clear r3 B0 l1 l2
  generalize hR3 : (⟨(D.leafW l v t).toArray⟩ : ByteArray) = R3 at *
  have HR3 := Lib.hid hR3
  clear hR3
  generalize (⟨(D.flagB false ++ l ++ v).toArray⟩ : ByteArray) = R2 at *
  generalize (⟨(D.flagB false ++ l).toArray⟩ : ByteArray) = R1 at *
  generalize (⟨(D.flagB false).toArray⟩ : ByteArray) = EN1 at *
  generalize (⟨(D.numB t).toArray⟩ : ByteArray) = ET1 at *
  generalize (⟨l.toArray⟩ : ByteArray) = P at *
  generalize (⟨v.toArray⟩ : ByteArray) = S at *
  apply wp_region_rel_below [[], [(1, none)], [(4, some 1)], [(5, some 2)], [(3, some 0), (6, some 3)], [(1, none)], [(8, some 5)], [(9, some 6)], [(7, some 4), (10, some 7)], [(1, none)], [(12, some 9)], [(13, some 10)], [(11, some 8), (14, some 11)], [(15, some 12)]] [eqv _, eqv _, eqv _, eqv _, eqv _, eqv _, eqv _, eqv _, eqv _, eqv _, eqv _, eqv _, eqv _, eqv _] (by kernel_rfl) (by kernel_rfl)
  case hobs =>
    refine ⟨?_, ?_⟩
    · rintro L a1 w1 hT - - -   -- 0: Op.call { value (Operand.func 48), args := #[const (Value.bool false)], argTypes := #[4] }
      go_simp; go_at_call 48; (with_reducible refine (FF.out _).mono ?_); rintro e w2 ⟨rfl, hb⟩; exact left_intro rfl (Stp.of hb) trivial
    refine ⟨?_, ?_⟩
    · rintro L a1 w1 hT - - ⟨h1, -⟩   -- 1: Op.fieldAddr 77 t1 0
      have e1 : a1.tmps.getD 1 undef = _ := h1
      have f1 := getD_form e1
      clear h1
      go_simp; exact left_intro rfl (Stp.refl _) trivial
    refine ⟨?_, ?_⟩
    · rintro L a1 w1 hT - - ⟨h4, -⟩   -- 2: Op.load 25 t4
      have e4 : a1.tmps.getD 4 undef = _ := h4
      have f4 := getD_form e4
      clear h4
      exact wp_load_labR (.tmp 4) rfl e4 (range_stp r1 hlt hT) hl (left_intro rfl (Stp.refl _) trivial)
    refine ⟨?_, ?_⟩
    · rintro L a1 w1 hT - - ⟨h5, -⟩   -- 3: Op.call { value (Operand.func 80), args := #[t5], argTypes := #[25] }
      have e5 : a1.tmps.getD 5 undef = _ := h5
      have f5 := getD_form e5
      clear h5
      go_simp; go_at_call 80; (with_reducible refine (LP.out _).mono ?_); rintro e w2 ⟨rfl, hb⟩; exact left_intro rfl (Stp.of hb) trivial
    refine ⟨?_, ?_⟩
    · rintro L a1 w1 hT - - ⟨h3, h6, -⟩   -- 4: Op.binOp BinOp.add 9 t3 t6 9
      have e3 : a1.tmps.getD 3 undef = _ := h3
      have f3 := getD_form e3
      have e6 : a1.tmps.getD 6 undef = _ := h6
      have f6 := getD_form e6
      clear h3 h6
      go_simp; exact left_intro rfl (Stp.refl _) trivial
    refine ⟨?_, ?_⟩
    · rintro L a1 w1 hT - - ⟨h1, -⟩   -- 5: Op.fieldAddr 77 t1 1
      have e1 : a1.tmps.getD 1 undef = _ := h1
      have f1 := getD_form e1
      clear h1
      go_simp; exact left_intro rfl (Stp.refl _) trivial
    refine ⟨?_, ?_⟩
    · rintro L a1 w1 hT - - ⟨h8, -⟩   -- 6: Op.load 25 t8
      have e8 : a1.tmps.getD 8 undef = _ := h8
      have f8 := getD_form e8
      clear h8
      exact wp_load_labR (.tmp 8) rfl e8 (range_stp r2 hlt hT) hv (left_intro rfl (Stp.refl _) trivial)
    refine ⟨?_, ?_⟩
    · rintro L a1 w1 hT - - ⟨h9, -⟩   -- 7: Op.call { value (Operand.func 80), args := #[t9], argTypes := #[25] }
      have e9 : a1.tmps.getD 9 undef = _ := h9
      have f9 := getD_form e9
      clear h9
      go_simp; go_at_call 80; (with_reducible refine (LS.out _).mono ?_); rintro e w2 ⟨rfl, hb⟩; exact left_intro rfl (Stp.of hb) trivial
    refine ⟨?_, ?_⟩
    · rintro L a1 w1 hT - - ⟨h7, h10, -⟩   -- 8: Op.binOp BinOp.add 9 t7 t10 9
      have e7 : a1.tmps.getD 7 undef = _ := h7
      have f7 := getD_form e7
      have e10 : a1.tmps.getD 10 undef = _ := h10
      have f10 := getD_form e10
      clear h7 h10
      go_simp; exact left_intro rfl (Stp.refl _) trivial
    refine ⟨?_, ?_⟩
    · rintro L a1 w1 hT - - ⟨h1, -⟩   -- 9: Op.fieldAddr 77 t1 2
      have e1 : a1.tmps.getD 1 undef = _ := h1
      have f1 := getD_form e1
      clear h1
      go_simp; exact left_intro rfl (Stp.refl _) trivial
    refine ⟨?_, ?_⟩
    · rintro L a1 w1 hT - - ⟨h12, -⟩   -- 10: Op.load 3 t12
      have e12 : a1.tmps.getD 12 undef = _ := h12
      have f12 := getD_form e12
      clear h12
      have c13 := hc3 w1 hT
      go_simp; exact left_intro rfl (Stp.refl _) trivial
    refine ⟨?_, ?_⟩
    · rintro L a1 w1 hT - - ⟨h13, -⟩   -- 11: Op.call { value (Operand.func 68), args := #[t13], argTypes := #[3] }
      have e13 : a1.tmps.getD 13 undef = _ := h13
      have f13 := getD_form e13
      clear h13
      go_simp; go_at_call 68; (with_reducible refine (ET.out _).mono ?_); rintro e w2 ⟨rfl, hb⟩; exact left_intro rfl (Stp.of hb) trivial
    refine ⟨?_, ?_⟩
    · rintro L a1 w1 hT - - ⟨h11, h14, -⟩   -- 12: Op.binOp BinOp.add 9 t11 t14 9
      have e11 : a1.tmps.getD 11 undef = _ := h11
      have f11 := getD_form e11
      have e14 : a1.tmps.getD 14 undef = _ := h14
      have f14 := getD_form e14
      clear h11 h14
      go_simp; exact left_intro rfl (Stp.refl _) trivial
    refine ⟨?_, ?_⟩
    · rintro L a1 w1 hT - - ⟨h15, -⟩   -- 13: Op.assign t15
      have e15 : a1.tmps.getD 15 undef = _ := h15
      have f15 := getD_form e15
      clear h15
      go_simp; exact left_intro rfl (Stp.refl _) trivial
    trivial
  case hmono => repeat (first | exact trivial | refine ⟨fun _ _ _ _ h => h, ?_⟩)
  case hend =>
    intro w2 hT
    rintro _ rfl _ rfl _ rfl _ rfl _ rfl _ rfl _ rfl _ rfl _ rfl _ rfl _ rfl _ rfl _ rfl _ rfl
    simp only [relEnd, Act.put, List.setIfInBounds_toArray, List.set_cons_succ, List.set_cons_zero]
    have hB2 := hB.trans (Below.mono hT hB.size)
    go_wp2
    go_ret
    exact ⟨by rw [HR3.out]; rfl, hB2⟩
end Go.Proofs.Ytgjmnhbkdccgpaa
