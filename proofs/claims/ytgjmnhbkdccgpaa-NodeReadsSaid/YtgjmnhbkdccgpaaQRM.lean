/- Texts merged. -/
import Derived.Test.YtgjmnhbkdccgpaaNAwake
import Derived.Test.YtgjmnhbkdccgpaaPureTake
import Derived.Test.YtgjmnhbkdccgpaaWRLab
import Derived.Test.YtgjmnhbkdccgpaaOpenN
import Derived.Test.YtgjmnhbkdccgpaaRel
import Derived.Test.YtgjmnhbkdccgpaaKit6
import Derived.Test.YtgjmnhbkdccgpaaWItem2

/- From NRead2. -/
namespace Go.Proofs.Ytgjmnhbkdccgpaa
open Go.RowKit

set_option maxRecDepth 100000 in
set_option maxHeartbeats 1000000 in
theorem asLeaf_gen (V : Value) (C : Array Value) (b : Bool) (hC : C.size = 65) (h1 : C.all (·.oneCell') = true) (hv : ∀ w, (Instr.typeAssert V 83 61 true).run Try.prog w = .ok (.tuple #[.agg C, .bool b]) w) (w : World) :
    Calls Try.prog 56 #[V] w fun e w' => e = .returned (.tuple #[.agg C, .bool b]) ∧ Below w.heap.size w w' := by
  have hzl := leafC_length zlab zlab 0 rfl rfl
  have hfit : 0 + C.size ≤ (leafC zlab zlab 0).toArray.size := by rw [hC, List.size_toArray, hzl]; decide
  have hsl : (Try.prog.info? 61).map (·.size) = some C.size := by rw [hC]; exact info_leaf
  have hsp := splice_all (leafC zlab zlab 0).toArray C (by rw [hC, List.size_toArray, hzl])
  have B0 := (Blk.new w (leafC zlab zlab 0).toArray 61).alloc (.cells (leafC zlab zlab 0).toArray 61)
  have B1 := blk_new1 w (.cells (leafC zlab zlab 0).toArray 61) (leafC zlab zlab 0).toArray 61
  have hB := (below_alloc1 w (.cells (leafC zlab zlab 0).toArray 61)).alloc (o := .cells (leafC zlab zlab 0).toArray 61) (by simp)
  have n01 : w.heap.size ≠ w.heap.size + 1 := by omega
  go_enter Try.func56, Try.ntmps56
  go_wp2_with (first | (refine wpList_fresh (by rfl) 61 (by rfl) _ fresh_leaf ?_; simp only [Act.put, List.setIfInBounds_toArray, List.set_cons_succ, List.set_cons_zero]; try simp only [World.size_alloc]) | (refine wpList_assert (by rfl) (.tmp 7) _ _ _ (by rfl) V (by rfl) _ hv ?_; simp only [Act.put, List.setIfInBounds_toArray, List.set_cons_succ, List.set_cons_zero]) | ((refine wpList_store_blk (by rfl) 61 (.tmp 4) (.tmp 9) (by rfl) (0) (C) (by rfl) (by rfl) (B1) (hfit) hsl (h1) ?_; simp only [Act.put]); intro w1 b1 o1; rw [hsp] at b1; have c0 := B0.only o1 n01; have hB1 := o1.below hB (by omega)) | (refine wpList_load_blk (by rfl) 61 (.tmp 4) (by rfl) 0 (by rfl) (b1) (C) whole_at _ Try.underlying61 (by rfl) hsl ?_; simp only [Act.put, List.setIfInBounds_toArray, List.set_cons_succ, List.set_cons_zero]) | ((refine wpList_store_blk (by rfl) 61 (.tmp 2) (.tmp 11) (by rfl) (0) (C) (by rfl) (by rfl) (c0) (hfit) hsl (h1) ?_; simp only [Act.put]); intro w2 b2 o2; rw [hsp] at b2; have hB2 := o2.below hB1 (Nat.le_refl _)))
  exact bodyPost_ret (v := .tuple #[.agg C, .bool b]) (results_blk2 (by rfl) _ b2 _ _ (by rfl) (by rfl) Try.underlying61 (by rfl) hsl) rfl ⟨rfl, hB2⟩
set_option maxRecDepth 100000 in
set_option maxHeartbeats 1000000 in
theorem asInner_gen (V : Value) (C : Array Value) (b : Bool) (hC : C.size = 132) (h1 : C.all (·.oneCell') = true) (hv : ∀ w, (Instr.typeAssert V 83 69 true).run Try.prog w = .ok (.tuple #[.agg C, .bool b]) w) (w : World) :
    Calls Try.prog 57 #[V] w fun e w' => e = .returned (.tuple #[.agg C, .bool b]) ∧ Below w.heap.size w w' := by
  have hzl := innerC_size 0 zlab zlab 0 0 zlab zlab 0 rfl rfl rfl rfl
  have hfit : 0 + C.size ≤ (innerC 0 zlab zlab 0 0 zlab zlab 0).toArray.size := by rw [hC, hzl]; decide
  have hsl : (Try.prog.info? 69).map (·.size) = some C.size := by rw [hC]; exact info_inner
  have hsp := splice_all (innerC 0 zlab zlab 0 0 zlab zlab 0).toArray C (by rw [hC, hzl])
  have B0 := (Blk.new w (innerC 0 zlab zlab 0 0 zlab zlab 0).toArray 69).alloc (.cells (innerC 0 zlab zlab 0 0 zlab zlab 0).toArray 69)
  have B1 := blk_new1 w (.cells (innerC 0 zlab zlab 0 0 zlab zlab 0).toArray 69) (innerC 0 zlab zlab 0 0 zlab zlab 0).toArray 69
  have hB := (below_alloc1 w (.cells (innerC 0 zlab zlab 0 0 zlab zlab 0).toArray 69)).alloc (o := .cells (innerC 0 zlab zlab 0 0 zlab zlab 0).toArray 69) (by simp)
  have n01 : w.heap.size ≠ w.heap.size + 1 := by omega
  go_enter Try.func57, Try.ntmps57
  go_wp2_with (first | (refine wpList_fresh (by rfl) 69 (by rfl) _ fresh_inner ?_; simp only [Act.put, List.setIfInBounds_toArray, List.set_cons_succ, List.set_cons_zero]; try simp only [World.size_alloc]) | (refine wpList_assert (by rfl) (.tmp 7) _ _ _ (by rfl) V (by rfl) _ hv ?_; simp only [Act.put, List.setIfInBounds_toArray, List.set_cons_succ, List.set_cons_zero]) | ((refine wpList_store_blk (by rfl) 69 (.tmp 4) (.tmp 9) (by rfl) (0) (C) (by rfl) (by rfl) (B1) (hfit) hsl (h1) ?_; simp only [Act.put]); intro w1 b1 o1; rw [hsp] at b1; have c0 := B0.only o1 n01; have hB1 := o1.below hB (by omega)) | (refine wpList_load_blk (by rfl) 69 (.tmp 4) (by rfl) 0 (by rfl) (b1) (C) whole_at _ Try.underlying69 (by rfl) hsl ?_; simp only [Act.put, List.setIfInBounds_toArray, List.set_cons_succ, List.set_cons_zero]) | ((refine wpList_store_blk (by rfl) 69 (.tmp 2) (.tmp 11) (by rfl) (0) (C) (by rfl) (by rfl) (c0) (hfit) hsl (h1) ?_; simp only [Act.put]); intro w2 b2 o2; rw [hsp] at b2; have hB2 := o2.below hB1 (Nat.le_refl _)))
  exact bodyPost_ret (v := .tuple #[.agg C, .bool b]) (results_blk2 (by rfl) _ b2 _ _ (by rfl) (by rfl) Try.underlying69 (by rfl) hsl) rfl ⟨rfl, hB2⟩
/-- What node.AsLeaf and AsInner give of a node; of nil. -/
theorem asLeaf_leaf (l v : List UInt8) (t : Int) (hl : l.length = 32) (hv : v.length = 32) (w : World) : Calls Try.prog 56 #[.iface 61 (.agg (leafC l v t).toArray)] w fun e w' => e = .returned (.tuple #[.agg (leafC l v t).toArray, .bool true]) ∧ Below w.heap.size w w' :=
  asLeaf_gen _ _ true (by rw [List.size_toArray, leafC_length l v t hl hv]) (leafC_one l v t) (fun w => as61_yes _ w) w
theorem asLeaf_inner (V : Value) (w : World) : Calls Try.prog 56 #[.iface 69 V] w fun e w' => e = .returned (.tuple #[.agg (leafC zlab zlab 0).toArray, .bool false]) ∧ Below w.heap.size w w' :=
  asLeaf_gen _ _ false rfl (leafC_one _ _ _) (fun w => as61_no _ w) w
theorem asLeaf_nil (w : World) : Calls Try.prog 56 #[.nilIface] w fun e w' => e = .returned (.tuple #[.agg (leafC zlab zlab 0).toArray, .bool false]) ∧ Below w.heap.size w w' :=
  asLeaf_gen _ _ false rfl (leafC_one _ _ _) (fun w => as61_nil w) w
theorem asInner_inner (n : Int) (p s : List UInt8) (t : Int) (n' : Int) (p' s' : List UInt8) (t' : Int) (hp : p.length = 32) (hs : s.length = 32) (hp' : p'.length = 32) (hs' : s'.length = 32) (w : World) : Calls Try.prog 57 #[.iface 69 (.agg (innerC n p s t n' p' s' t').toArray)] w fun e w' => e = .returned (.tuple #[.agg (innerC n p s t n' p' s' t').toArray, .bool true]) ∧ Below w.heap.size w w' :=
  asInner_gen _ _ true (innerC_size _ _ _ _ _ _ _ _ hp hs hp' hs') (innerC_one _ _ _ _ _ _ _ _) (fun w => as69_yes _ w) w
theorem asInner_leaf (V : Value) (w : World) : Calls Try.prog 57 #[.iface 61 V] w fun e w' => e = .returned (.tuple #[.agg (innerC 0 zlab zlab 0 0 zlab zlab 0).toArray, .bool false]) ∧ Below w.heap.size w w' :=
  asInner_gen _ _ false rfl (innerC_one _ _ _ _ _ _ _ _) (fun w => as69_no _ w) w
theorem asInner_nil (w : World) : Calls Try.prog 57 #[.nilIface] w fun e w' => e = .returned (.tuple #[.agg (innerC 0 zlab zlab 0 0 zlab zlab 0).toArray, .bool false]) ∧ Below w.heap.size w w' :=
  asInner_gen _ _ false rfl (innerC_one _ _ _ _ _ _ _ _) (fun w => as69_nil w) w

theorem gtr_one (t : List UInt8) (w : World) : (Op.stringOp .gtr ⟨t.toArray⟩ ⟨#[1]⟩).run Try.prog w = .ok (.bool (D.gt1 t)) w := by
  have h : (!(Op.bytesLess t [1] || t == [1])) = D.gt1 t := by
    cases t with
    | nil => rfl
    | cons c l =>
      have e1 : Op.bytesLess l [] = false := by cases l <;> rfl
      have e2 : Op.bytesLess (c :: l) [1] = (decide (c < 1) || (c == 1 && Op.bytesLess l [])) := rfl
      have e3 : (c :: l == [1]) = (c == 1 && l.isEmpty) := by cases l <;> simp
      have e4 : decide (c < 1) = decide (c.toNat < 1) := by rw [Bool.eq_iff_iff, decide_eq_true_eq, decide_eq_true_eq]; exact UInt8.lt_iff_toNat_lt
      have e5 : (c == 1) = (c.toNat == 1) := by rw [Bool.eq_iff_iff, beq_iff_eq, beq_iff_eq]; exact ⟨fun h => by rw [h]; rfl, fun h => UInt8.toNat_inj.1 h⟩
      rw [e2, e1, e3, e4, e5]
      show _ = (decide (1 < c.toNat) || (c.toNat == 1 && !l.isEmpty))
      rcases Nat.lt_trichotomy c.toNat 1 with h0 | h0 | h0
      · have : c.toNat = 0 := by omega
        rw [this]; cases l.isEmpty <;> rfl
      · rw [h0]; cases l.isEmpty <;> rfl
      · have d1 : decide (c.toNat < 1) = false := by simp; omega
        have d2 : decide (1 < c.toNat) = true := by simp; omega
        have d3 : (c.toNat == 1) = false := by simp; omega
        rw [d1, d2, d3]; cases l.isEmpty <;> rfl
  unfold Op.stringOp
  simp only [str_list, show (⟨#[1]⟩ : ByteArray).toList = [1] from str_list [1], h]
  rfl
set_option maxRecDepth 100000 in
set_option maxHeartbeats 1000000 in
theorem rdflag_any (s : List UInt8) (hs : s.length ≤ 4611686018427387904) (r : D.Rd) (g : Nat) (w : World) (h : Rst w g s r) :
    Calls Try.prog 86 #[.pointer (some ⟨g, 0, none⟩)] w fun e w' => e = .returned (.bool (D.flag s r).1) ∧ Rst w' g s (D.flag s r).2 ∧ w.grownBy w' (some g) := by
  have h1 := fun w h => take_any s hs r 1 (by omega) g w h
  rw [show ((1 : Nat) : Int) = 1 from rfl] at h1
  have H1 := Lib.hid h1
  have h2 := fun W h => rfail_any s (D.take s r 1).2 4 g W h
  rw [show ((4 : Nat) : Int) = 4 from rfl] at h2
  have H2 := Lib.hid h2
  clear h1 h2
  have hF : D.flag s r = if D.gt1 (D.take s r 1).1 = true then (false, D.fail (D.take s r 1).2 4) else ((D.take s r 1).1 == [1], (D.take s r 1).2) := rfl
  have hgt : ∀ w, (binOp .gtr 9 (.string ⟨(D.take s r 1).1.toArray⟩) (.string ⟨#[1]⟩)).run Try.prog w = .ok (.bool (D.gt1 (D.take s r 1).1)) w := fun w => gtr_one (D.take s r 1).1 w
  generalize D.flag s r = F at *
  generalize D.take s r 1 = T at *
  cases hb : D.gt1 T.1 with
  | true =>
    rw [hb] at hgt hF
    rw [if_pos rfl] at hF
    subst hF
    clear hb
    go_enter Try.func86, Try.ntmps86
    go_wp2_with (first | (go_at_call 115; (with_reducible refine (H1.out _ h).mono ?_); rintro e w1 ⟨rfl, hr1, ho1⟩) | (go_at_call 116; (with_reducible refine (H2.out _ hr1).mono ?_); rintro e w2 ⟨rfl, hr2, ho2⟩))
    go_ret
    exact ⟨rfl, hr2, grown_then ho1.grown ho2.grown⟩
  | false =>
    rw [hb] at hgt hF
    rw [if_neg (by simp)] at hF
    subst hF
    clear hb
    go_enter Try.func86, Try.ntmps86
    go_wp2_with (first | (go_at_call 115; (with_reducible refine (H1.out _ h).mono ?_); rintro e w1 ⟨rfl, hr1, ho1⟩) | (go_at_call 116; (with_reducible refine (H2.out _ hr1).mono ?_); rintro e w2 ⟨rfl, hr2, ho2⟩))
    go_ret
    exact ⟨rfl, hr1, ho1.grown⟩
theorem build_pref2 (n : Int) (p : List UInt8) (hp : p.length = 32) (w : World) : (Instr.build 63 #[(0, .int .i64 n), (1, .agg (labA p))]).run Try.prog w = .ok (.agg (prefA n p)) w := by
  obtain ⟨a0, a1, a2, a3, a4, a5, a6, a7, a8, a9, a10, a11, a12, a13, a14, a15, a16, a17, a18, a19, a20, a21, a22, a23, a24, a25, a26, a27, a28, a29, a30, a31, rfl⟩ := lab32 p hp
  kernel_rfl
set_option maxRecDepth 100000 in
set_option maxHeartbeats 1000000 in
theorem nread_any (s : List UInt8) (hs : s.length ≤ 4611686018427387904) (r : D.Rd) (g : Nat) (w : World) (h : Rst w g s r) :
    Calls Try.prog 87 #[.pointer (some ⟨g, 0, none⟩)] w fun e w' => e = .returned (.agg (itemC (D.ritem s r).1.1 (D.ritem s r).1.2.1 (D.ritem s r).1.2.2.1 (D.ritem s r).1.2.2.2).toArray) ∧ Rst w' g s (D.ritem s r).2 ∧ w.grownBy w' (some g) := by
  have hN := fun W h => rnumber_any s hs r g W h
  have hP := fun W h => rlabel_any s hs (D.number s r).2 g W h
  have hM := fun W h => rlabel_any s hs (D.label s (D.number s r).2).2 g W h
  have hT := fun W h => rnumber_any s hs (D.label s (D.label s (D.number s r).2).2).2 g W h
  have hF : D.ritem s r = (((D.number s r).1, (D.label s (D.number s r).2).1, (D.label s (D.label s (D.number s r).2).2).1, (D.number s (D.label s (D.label s (D.number s r).2).2).2).1), (D.number s (D.label s (D.label s (D.number s r).2).2).2).2) := rfl
  have lp := D.label_len s (D.number s r).2
  have lm := D.label_len s (D.label s (D.number s r).2).2
  generalize D.ritem s r = F at *
  subst hF
  generalize D.number s (D.label s (D.label s (D.number s r).2).2).2 = x4 at *
  generalize D.label s (D.label s (D.number s r).2).2 = x3 at *
  generalize D.label s (D.number s r).2 = x2 at *
  generalize D.number s r = x1 at *
  obtain ⟨n, r1⟩ := x1
  obtain ⟨p, r2⟩ := x2
  obtain ⟨m, r3⟩ := x3
  obtain ⟨t, r4⟩ := x4
  dsimp only at *
  have HN := Lib.hid hN
  have HP := Lib.hid hP
  have HM := Lib.hid hM
  have HT := Lib.hid hT
  clear hN hP hM hT
  have hlt := h.blk.lt
  have B0 := Blk.new w (itemC 0 zlab zlab 0).toArray 65
  have hr0 := h.below (below_alloc1 w (.cells (itemC 0 zlab zlab 0).toArray 65))
  have hg0 : w.grownBy (w.alloc (.cells (itemC 0 zlab zlab 0).toArray 65)) (some g) := below_grows (below_alloc1 w _)
  have hne : some w.heap.size ≠ some g := by intro e; injection e with e; omega
  have hsz : (Try.prog.info? 65).map (·.size) = some (itemC (n : Int) p m t).toArray.size := by rw [List.size_toArray, itemC_length (n : Int) p m t lp lm]; exact info_item
  have hsp := splice_all (itemC 0 zlab zlab 0).toArray (itemC (n : Int) p m t).toArray (by rw [List.size_toArray, List.size_toArray, itemC_length (n : Int) p m t lp lm, itemC_length 0 zlab zlab 0 rfl rfl])
  have hfit : 0 + (itemC (n : Int) p m t).toArray.size ≤ (itemC 0 zlab zlab 0).toArray.size := by rw [List.size_toArray, List.size_toArray, itemC_length (n : Int) p m t lp lm, itemC_length 0 zlab zlab 0 rfl rfl]; decide
  have h1 := itemC_one (n : Int) p m t
  have hb1 := build_pref2 (n : Int) p lp
  have hb2 := build_item (n : Int) t p m lp lm
  go_enter Try.func87, Try.ntmps87
  go_wp2_with (first | (refine wpList_fresh (by rfl) 65 (by rfl) _ fresh_item ?_; simp only [Act.put, List.setIfInBounds_toArray, List.set_cons_succ, List.set_cons_zero]; try simp only [World.size_alloc]) | (go_at_call 89; first | ((with_reducible refine (HN.out _ hr0).mono ?_); rintro e w1 ⟨rfl, hr1, hg1⟩; have B1 := B0.grown hg1 hne; replace hg1 := grown_then hg0 hg1) | ((with_reducible refine (HT.out _ hr3).mono ?_); rintro e w4 ⟨rfl, hr4, hg4⟩; have B4 := B3.grown hg4 hne; replace hg4 := grown_then hg3 hg4)) | (go_at_call 88; first | ((with_reducible refine (HP.out _ hr1).mono ?_); rintro e w2 ⟨rfl, hr2, hg2⟩; have B2 := B1.grown hg2 hne; replace hg2 := grown_then hg1 hg2) | ((with_reducible refine (HM.out _ hr2).mono ?_); rintro e w3 ⟨rfl, hr3, hg3⟩; have B3 := B2.grown hg3 hne; replace hg3 := grown_then hg2 hg3)) | (refine wpList_build (by rfl) 63 ([(0, .tmp 4), (1, .tmp 6)]) (by rfl) ([(0, .int .i64 n), (1, .agg (labA p))]) (by rfl) (.agg (prefA n p)) (hb1) ?_; simp only [Act.put, List.setIfInBounds_toArray, List.set_cons_succ, List.set_cons_zero]) | (refine wpList_build (by rfl) 65 ([(0, .tmp 7), (1, .tmp 9), (2, .tmp 11)]) (by rfl) ([(0, .agg (prefA n p)), (1, .agg (labA m)), (2, .int .i64 t)]) (by rfl) (.agg (itemC n p m t).toArray) (hb2) ?_; simp only [Act.put, List.setIfInBounds_toArray, List.set_cons_succ, List.set_cons_zero]) | ((refine wpList_store_blk (by rfl) 65 (.tmp 2) (.tmp 12) (by rfl) (0) ((itemC (n : Int) p m t).toArray) (by rfl) (by rfl) (B4) (hfit) hsz (h1) ?_; simp only [Act.put]); intro w5 b5 o5; rw [hsp] at b5))
  exact bodyPost_ret (v := .agg (itemC (n : Int) p m t).toArray) (results_blk (by rfl) _ b5 _ (by rfl) Try.underlying65 (by rfl) hsz) rfl ⟨rfl, hr4.only o5 (by omega), grown_only hg4 o5 (Nat.le_refl _)⟩
end Go.Proofs.Ytgjmnhbkdccgpaa
namespace Go.Proofs.Ytgjmnhbkdccgpaa
open Go.RowKit

namespace D
/-- A node. -/
inductive Nd where
  | leaf (l v : List UInt8) (t : Nat)
  | inner (a b : Nat × List UInt8 × List UInt8 × Nat)
def Nd.err : Nd → Int
  | .leaf _ _ t => leafE t
  | .inner a b => innerE a.1 a.2.1 a.2.2.2 b.1 b.2.1 b.2.2.2
def Nd.cells : Nd → Value
  | .leaf l v t => .iface 61 (.agg (leafC l v t).toArray)
  | .inner a b => .iface 69 (.agg (innerC a.1 a.2.1 a.2.2.1 a.2.2.2 b.1 b.2.1 b.2.2.1 b.2.2.2).toArray)
def Nd.text : Nd → List UInt8
  | .leaf l v t => flagW false ++ wLeaf (l, v, t)
  | .inner a b => flagW true ++ wItem a ++ wItem b
/-- What is read of bytes, before the end is looked at. -/
def rnode (s : List UInt8) : Nd × Rd :=
  if (flag s ⟨0, 0⟩).1 = true then (.inner (ritem s (flag s ⟨0, 0⟩).2).1 (ritem s (ritem s (flag s ⟨0, 0⟩).2).2).1, (ritem s (ritem s (flag s ⟨0, 0⟩).2).2).2)
  else (.leaf (rleaf s (flag s ⟨0, 0⟩).2).1.1 (rleaf s (flag s ⟨0, 0⟩).2).1.2.1 (rleaf s (flag s ⟨0, 0⟩).2).1.2.2, (rleaf s (flag s ⟨0, 0⟩).2).2)
/-- The error's number of bytes that are read as a node. -/
def rdErr (s : List UInt8) : Int := if done s (rnode s).2 = 0 then (rnode s).1.err else (done s (rnode s).2 : Nat)
def rdVal (s : List UInt8) : Value := if rdErr s = 0 then (rnode s).1.cells else .nilIface
theorem rnode_inv {s : List UInt8} (h : done s (rnode s).2 = 0) : s = (rnode s).1.text := by
  obtain ⟨he, hl⟩ := done_inv h
  have hR : rnode s = if (flag s ⟨0, 0⟩).1 = true then (.inner (ritem s (flag s ⟨0, 0⟩).2).1 (ritem s (ritem s (flag s ⟨0, 0⟩).2).2).1, (ritem s (ritem s (flag s ⟨0, 0⟩).2).2).2)
    else (.leaf (rleaf s (flag s ⟨0, 0⟩).2).1.1 (rleaf s (flag s ⟨0, 0⟩).2).1.2.1 (rleaf s (flag s ⟨0, 0⟩).2).1.2.2, (rleaf s (flag s ⟨0, 0⟩).2).2) := rfl
  generalize rnode s = N at *
  have a1 := fun h => flag_inv (s := s) (r := ⟨0, 0⟩) h
  have a2 := fun h => ritem_inv (s := s) (r := (flag s ⟨0, 0⟩).2) h
  have a3 := fun h => ritem_inv (s := s) (r := (ritem s (flag s ⟨0, 0⟩).2).2) h
  have b2 := fun h => rleaf_inv (s := s) (r := (flag s ⟨0, 0⟩).2) h
  generalize ritem s (ritem s (flag s ⟨0, 0⟩).2).2 = Y at *
  generalize ritem s (flag s ⟨0, 0⟩).2 = X at *
  generalize rleaf s (flag s ⟨0, 0⟩).2 = Z at *
  generalize flag s ⟨0, 0⟩ = F at *
  obtain ⟨f, r1⟩ := F
  dsimp only at *
  cases f with
  | true =>
    rw [if_pos rfl] at hR
    subst hR
    have k3 := a3 he
    have k2 := a2 k3.e0
    have k1 := a1 k2.e0
    exact at_all ((k1.trans k2).trans k3) hl
  | false =>
    rw [if_neg (by simp)] at hR
    subst hR
    have k2 := b2 he
    have k1 := a1 k2.e0
    exact at_all (k1.trans k2) hl
theorem leafE_vals (t : Int) : leafE t = 0 ∨ leafE t = 1 := by
  unfold leafE
  split
  · exact .inl rfl
  · exact .inr rfl
theorem innerE_vals (n : Int) (p : List UInt8) (t : Int) (n' : Int) (p' : List UInt8) (t' : Int) : innerE n p t n' p' t' = 0 ∨ innerE n p t n' p' t' = 1 ∨ innerE n p t n' p' t' = 3 := by
  unfold innerE
  split
  · split
    · exact .inr (.inr rfl)
    · exact .inl rfl
  · exact .inr (.inl rfl)
end D
theorem wf_nat {n : Nat} (h : n < 9223372036854775808) : (Lit.int .i64 (n : Int)).wf = true := WalkArith.wf_i64 ⟨by omega, by omega⟩
theorem build_leafN (l v : List UInt8) (t : Int) (hl : l.length = 32) (hv : v.length = 32) (w : World) : (Instr.build 61 #[(0, .agg (labA l)), (1, .agg (labA v)), (2, .int .i64 t)]).run Try.prog w = .ok (.agg (leafC l v t).toArray) w := by
  obtain ⟨a0, a1, a2, a3, a4, a5, a6, a7, a8, a9, a10, a11, a12, a13, a14, a15, a16, a17, a18, a19, a20, a21, a22, a23, a24, a25, a26, a27, a28, a29, a30, a31, rfl⟩ := lab32 l hl
  obtain ⟨b0, b1, b2, b3, b4, b5, b6, b7, b8, b9, b10, b11, b12, b13, b14, b15, b16, b17, b18, b19, b20, b21, b22, b23, b24, b25, b26, b27, b28, b29, b30, b31, rfl⟩ := lab32 v hv
  kernel_rfl
set_option maxRecDepth 100000 in
set_option maxHeartbeats 2000000 in
theorem nodeRead_any (s : List UInt8) (hs : s.length ≤ 65536) (w : World) :
    Calls Try.prog 54 #[.string ⟨s.toArray⟩] w fun e w' => e = .returned (.tuple #[D.rdVal s, .int .i64 (D.rdErr s)]) ∧ Below w.heap.size w w' := by
  have HO := Lib.hid (ropen_any s hs w)
  have hs2 : s.length ≤ 4611686018427387904 := by omega
  have HF := Lib.hid (fun W h => rdflag_any s hs2 ⟨0, 0⟩ w.heap.size W h)
  have hV : D.rdVal s = if D.rdErr s = 0 then (D.rnode s).1.cells else .nilIface := rfl
  have hE : D.rdErr s = if D.done s (D.rnode s).2 = 0 then (D.rnode s).1.err else (D.done s (D.rnode s).2 : Nat) := rfl
  have hR : D.rnode s = if (D.flag s ⟨0, 0⟩).1 = true then (.inner (D.ritem s (D.flag s ⟨0, 0⟩).2).1 (D.ritem s (D.ritem s (D.flag s ⟨0, 0⟩).2).2).1, (D.ritem s (D.ritem s (D.flag s ⟨0, 0⟩).2).2).2)
    else (.leaf (D.rleaf s (D.flag s ⟨0, 0⟩).2).1.1 (D.rleaf s (D.flag s ⟨0, 0⟩).2).1.2.1 (D.rleaf s (D.flag s ⟨0, 0⟩).2).1.2.2, (D.rleaf s (D.flag s ⟨0, 0⟩).2).2) := rfl
  generalize D.rdVal s = V at *
  generalize D.rdErr s = E at *
  generalize D.rnode s = N at *
  generalize D.flag s ⟨0, 0⟩ = F at *
  obtain ⟨b, r1⟩ := F
  dsimp only at *
  cases b with
  | true =>
    rw [if_pos rfl] at hR
    subst hR
    dsimp only at *
    have hA := fun W h => nread_any s hs2 r1 w.heap.size W h
    have hB := fun W h => nread_any s hs2 (D.ritem s r1).2 w.heap.size W h
    have HD := Lib.hid (fun W h => rdone_any s (D.ritem s (D.ritem s r1).2).2 w.heap.size W h)
    have l1 : (D.ritem s r1).1.2.1.length = 32 := D.label_len _ _
    have l2 : (D.ritem s r1).1.2.2.1.length = 32 := D.label_len _ _
    have l3 : (D.ritem s (D.ritem s r1).2).1.2.1.length = 32 := D.label_len _ _
    have l4 : (D.ritem s (D.ritem s r1).2).1.2.2.1.length = 32 := D.label_len _ _
    have m1 : (D.ritem s r1).1.1 < 9223372036854775808 := D.number_lt _ _
    have m2 : (D.ritem s (D.ritem s r1).2).1.1 < 9223372036854775808 := D.number_lt _ _
    generalize D.ritem s (D.ritem s r1).2 = Y at *
    generalize D.ritem s r1 = X at *
    obtain ⟨⟨n, p, m, t⟩, r2⟩ := X
    obtain ⟨⟨n', p', m', t'⟩, r3⟩ := Y
    dsimp only at *
    have HA := Lib.hid hA
    have HB := Lib.hid hB
    clear hA hB
    have CK := Lib.hid (fun W => chkInner_any (n : Int) p m t n' p' m' t' (wf_nat m1) (wf_nat m2) l1 l2 l3 l4 W)
    have hbd := build_inner (n : Int) t n' t' p m p' m' l1 l2 l3 l4
    clear m1 m2 l1 l2 l3 l4
    generalize hd : D.done s r3 = d at *
    by_cases hd0 : d = 0
    · subst hd0
      rw [if_pos rfl] at hE
      have hEv := D.innerE_vals (n : Int) p t n' p' t'
      have hE' : E = D.innerE (n : Int) p t n' p' t' := hE
      have hV' : V = if E = 0 then .iface 69 (.agg (innerC (n : Int) p m t n' p' m' t').toArray) else .nilIface := hV
      clear hE hV
      generalize D.innerE (n : Int) p t n' p' t' = c at *
      subst hE'
      generalize (innerC (n : Int) p m t n' p' m' t').toArray = CI at *
      generalize (itemC (n : Int) p m t).toArray = IA at *
      generalize (itemC (n' : Int) p' m' t').toArray = IB at *
      rcases hEv with rfl | rfl | rfl
      · rw [if_pos rfl] at hV'
        subst hV'
        go_enter Try.func54, Try.ntmps54
        go_wp2_with (first | (go_at_call 85; (with_reducible refine (HO.out).mono ?_); rintro e w1 ⟨rfl, s1, hb, -⟩) | (go_at_call 86; (with_reducible refine (HF.out _ s1).mono ?_); rintro e w2 ⟨rfl, s2, g2⟩; replace hb := below_grown hb hb.size g2 (by intro j hj; cases hj; omega); clear g2) | (go_at_call 87; first | ((with_reducible refine (HA.out _ s2).mono ?_); rintro e w3 ⟨rfl, s3, g3⟩; replace hb := below_grown hb hb.size g3 (by intro j hj; cases hj; omega); clear g3) | ((with_reducible refine (HB.out _ s3).mono ?_); rintro e w4 ⟨rfl, s9, g4⟩; replace hb := below_grown hb hb.size g4 (by intro j hj; cases hj; omega); clear g4)) | (refine wpList_build (by rfl) 69 ([(0, .tmp 13), (1, .tmp 15)]) (by rfl) ([(0, .agg IA), (1, .agg IB)]) (by rfl) (.agg CI) (hbd) ?_; simp only [Act.put, List.setIfInBounds_toArray, List.set_cons_succ, List.set_cons_zero]) | (go_at_call 90; (with_reducible refine (HD.out _ s9).mono ?_); rintro e w5 ⟨rfl, nd, rfl⟩; replace hb := below_drewN hb nd; try rw [hd]) | (go_at_call 69; (with_reducible refine (CK.out _).mono ?_); rintro e w6 ⟨rfl, h6⟩; replace hb := hb.trans (h6.mono hb.size)))
        go_ret2
        exact ⟨rfl, hb⟩
      · rw [if_neg (by decide)] at hV'
        subst hV'
        go_enter Try.func54, Try.ntmps54
        go_wp2_with (first | (go_at_call 85; (with_reducible refine (HO.out).mono ?_); rintro e w1 ⟨rfl, s1, hb, -⟩) | (go_at_call 86; (with_reducible refine (HF.out _ s1).mono ?_); rintro e w2 ⟨rfl, s2, g2⟩; replace hb := below_grown hb hb.size g2 (by intro j hj; cases hj; omega); clear g2) | (go_at_call 87; first | ((with_reducible refine (HA.out _ s2).mono ?_); rintro e w3 ⟨rfl, s3, g3⟩; replace hb := below_grown hb hb.size g3 (by intro j hj; cases hj; omega); clear g3) | ((with_reducible refine (HB.out _ s3).mono ?_); rintro e w4 ⟨rfl, s9, g4⟩; replace hb := below_grown hb hb.size g4 (by intro j hj; cases hj; omega); clear g4)) | (refine wpList_build (by rfl) 69 ([(0, .tmp 13), (1, .tmp 15)]) (by rfl) ([(0, .agg IA), (1, .agg IB)]) (by rfl) (.agg CI) (hbd) ?_; simp only [Act.put, List.setIfInBounds_toArray, List.set_cons_succ, List.set_cons_zero]) | (go_at_call 90; (with_reducible refine (HD.out _ s9).mono ?_); rintro e w5 ⟨rfl, nd, rfl⟩; replace hb := below_drewN hb nd; try rw [hd]) | (go_at_call 69; (with_reducible refine (CK.out _).mono ?_); rintro e w6 ⟨rfl, h6⟩; replace hb := hb.trans (h6.mono hb.size)))
        go_ret2
        exact ⟨rfl, hb⟩
      · rw [if_neg (by decide)] at hV'
        subst hV'
        go_enter Try.func54, Try.ntmps54
        go_wp2_with (first | (go_at_call 85; (with_reducible refine (HO.out).mono ?_); rintro e w1 ⟨rfl, s1, hb, -⟩) | (go_at_call 86; (with_reducible refine (HF.out _ s1).mono ?_); rintro e w2 ⟨rfl, s2, g2⟩; replace hb := below_grown hb hb.size g2 (by intro j hj; cases hj; omega); clear g2) | (go_at_call 87; first | ((with_reducible refine (HA.out _ s2).mono ?_); rintro e w3 ⟨rfl, s3, g3⟩; replace hb := below_grown hb hb.size g3 (by intro j hj; cases hj; omega); clear g3) | ((with_reducible refine (HB.out _ s3).mono ?_); rintro e w4 ⟨rfl, s9, g4⟩; replace hb := below_grown hb hb.size g4 (by intro j hj; cases hj; omega); clear g4)) | (refine wpList_build (by rfl) 69 ([(0, .tmp 13), (1, .tmp 15)]) (by rfl) ([(0, .agg IA), (1, .agg IB)]) (by rfl) (.agg CI) (hbd) ?_; simp only [Act.put, List.setIfInBounds_toArray, List.set_cons_succ, List.set_cons_zero]) | (go_at_call 90; (with_reducible refine (HD.out _ s9).mono ?_); rintro e w5 ⟨rfl, nd, rfl⟩; replace hb := below_drewN hb nd; try rw [hd]) | (go_at_call 69; (with_reducible refine (CK.out _).mono ?_); rintro e w6 ⟨rfl, h6⟩; replace hb := hb.trans (h6.mono hb.size)))
        go_ret2
        exact ⟨rfl, hb⟩
    · rw [if_neg hd0] at hE
      rw [hE, if_neg (by omega)] at hV
      subst hE hV
      have d1 : ((d : Int) == 0) = false := by rw [beq_eq_false_iff_ne]; omega
      generalize (innerC (n : Int) p m t n' p' m' t').toArray = CI at *
      generalize (itemC (n : Int) p m t).toArray = IA at *
      generalize (itemC (n' : Int) p' m' t').toArray = IB at *
      go_enter Try.func54, Try.ntmps54
      go_wp2_with (first | (go_at_call 85; (with_reducible refine (HO.out).mono ?_); rintro e w1 ⟨rfl, s1, hb, -⟩) | (go_at_call 86; (with_reducible refine (HF.out _ s1).mono ?_); rintro e w2 ⟨rfl, s2, g2⟩; replace hb := below_grown hb hb.size g2 (by intro j hj; cases hj; omega); clear g2) | (go_at_call 87; first | ((with_reducible refine (HA.out _ s2).mono ?_); rintro e w3 ⟨rfl, s3, g3⟩; replace hb := below_grown hb hb.size g3 (by intro j hj; cases hj; omega); clear g3) | ((with_reducible refine (HB.out _ s3).mono ?_); rintro e w4 ⟨rfl, s9, g4⟩; replace hb := below_grown hb hb.size g4 (by intro j hj; cases hj; omega); clear g4)) | (refine wpList_build (by rfl) 69 ([(0, .tmp 13), (1, .tmp 15)]) (by rfl) ([(0, .agg IA), (1, .agg IB)]) (by rfl) (.agg CI) (hbd) ?_; simp only [Act.put, List.setIfInBounds_toArray, List.set_cons_succ, List.set_cons_zero]) | (go_at_call 90; (with_reducible refine (HD.out _ s9).mono ?_); rintro e w5 ⟨rfl, nd, rfl⟩; replace hb := below_drewN hb nd; try rw [hd]) | (go_at_call 69; (with_reducible refine (CK.out _).mono ?_); rintro e w6 ⟨rfl, h6⟩; replace hb := hb.trans (h6.mono hb.size)))
      go_ret2
      exact ⟨rfl, hb⟩
  | false =>
    rw [if_neg (by simp)] at hR
    subst hR
    dsimp only at *
    have hA := fun W h => rlabel_any s hs2 r1 w.heap.size W h
    have hB := fun W h => rlabel_any s hs2 (D.label s r1).2 w.heap.size W h
    have hC := fun W h => rnumber_any s hs2 (D.label s (D.label s r1).2).2 w.heap.size W h
    have HD := Lib.hid (fun W h => rdone_any s (D.number s (D.label s (D.label s r1).2).2).2 w.heap.size W h)
    have l1 : (D.label s r1).1.length = 32 := D.label_len _ _
    have l2 : (D.label s (D.label s r1).2).1.length = 32 := D.label_len _ _
    have hrl : D.rleaf s r1 = (((D.label s r1).1, (D.label s (D.label s r1).2).1, (D.number s (D.label s (D.label s r1).2).2).1), (D.number s (D.label s (D.label s r1).2).2).2) := rfl
    rw [hrl] at hE hV
    dsimp only at hE hV
    clear hrl
    generalize D.number s (D.label s (D.label s r1).2).2 = Z at *
    generalize D.label s (D.label s r1).2 = Y at *
    generalize D.label s r1 = X at *
    obtain ⟨l, r2⟩ := X
    obtain ⟨v, r3⟩ := Y
    obtain ⟨t, r4⟩ := Z
    dsimp only at *
    have HA := Lib.hid hA
    have HB := Lib.hid hB
    have HC := Lib.hid hC
    clear hA hB hC
    have CK := Lib.hid (fun W => chkLeaf_any l v (t : Int) l1 l2 W)
    have hbd := build_leafN l v (t : Int) l1 l2
    clear l1 l2
    generalize hd : D.done s r4 = d at *
    by_cases hd0 : d = 0
    · subst hd0
      rw [if_pos rfl] at hE
      have hEv := D.leafE_vals (t : Int)
      have hE' : E = D.leafE (t : Int) := hE
      have hV' : V = if E = 0 then .iface 61 (.agg (leafC l v (t : Int)).toArray) else .nilIface := hV
      clear hE hV
      generalize D.leafE (t : Int) = c at *
      subst hE'
      generalize (leafC l v (t : Int)).toArray = CL at *
      rcases hEv with rfl | rfl
      · rw [if_pos rfl] at hV'
        subst hV'
        go_enter Try.func54, Try.ntmps54
        go_wp2_with (first | (go_at_call 85; (with_reducible refine (HO.out).mono ?_); rintro e w1 ⟨rfl, s1, hb, -⟩) | (go_at_call 86; (with_reducible refine (HF.out _ s1).mono ?_); rintro e w2 ⟨rfl, s2, g2⟩; replace hb := below_grown hb hb.size g2 (by intro j hj; cases hj; omega); clear g2) | (go_at_call 88; first | ((with_reducible refine (HA.out _ s2).mono ?_); rintro e w3 ⟨rfl, s3, g3⟩; replace hb := below_grown hb hb.size g3 (by intro j hj; cases hj; omega); clear g3) | ((with_reducible refine (HB.out _ s3).mono ?_); rintro e w4 ⟨rfl, s4, g4⟩; replace hb := below_grown hb hb.size g4 (by intro j hj; cases hj; omega); clear g4)) | (go_at_call 89; (with_reducible refine (HC.out _ s4).mono ?_); rintro e w7 ⟨rfl, s9, g7⟩; replace hb := below_grown hb hb.size g7 (by intro j hj; cases hj; omega); clear g7) | (refine wpList_build (by rfl) 61 ([(0, .tmp 19), (1, .tmp 21), (2, .tmp 23)]) (by rfl) ([(0, .agg (labA l)), (1, .agg (labA v)), (2, .int .i64 t)]) (by rfl) (.agg CL) (hbd) ?_; simp only [Act.put, List.setIfInBounds_toArray, List.set_cons_succ, List.set_cons_zero]) | (go_at_call 90; (with_reducible refine (HD.out _ s9).mono ?_); rintro e w5 ⟨rfl, nd, rfl⟩; replace hb := below_drewN hb nd; try rw [hd]) | (go_at_call 69; (with_reducible refine (CK.out _).mono ?_); rintro e w6 ⟨rfl, h6⟩; replace hb := hb.trans (h6.mono hb.size)))
        go_ret2
        exact ⟨rfl, hb⟩
      · rw [if_neg (by decide)] at hV'
        subst hV'
        go_enter Try.func54, Try.ntmps54
        go_wp2_with (first | (go_at_call 85; (with_reducible refine (HO.out).mono ?_); rintro e w1 ⟨rfl, s1, hb, -⟩) | (go_at_call 86; (with_reducible refine (HF.out _ s1).mono ?_); rintro e w2 ⟨rfl, s2, g2⟩; replace hb := below_grown hb hb.size g2 (by intro j hj; cases hj; omega); clear g2) | (go_at_call 88; first | ((with_reducible refine (HA.out _ s2).mono ?_); rintro e w3 ⟨rfl, s3, g3⟩; replace hb := below_grown hb hb.size g3 (by intro j hj; cases hj; omega); clear g3) | ((with_reducible refine (HB.out _ s3).mono ?_); rintro e w4 ⟨rfl, s4, g4⟩; replace hb := below_grown hb hb.size g4 (by intro j hj; cases hj; omega); clear g4)) | (go_at_call 89; (with_reducible refine (HC.out _ s4).mono ?_); rintro e w7 ⟨rfl, s9, g7⟩; replace hb := below_grown hb hb.size g7 (by intro j hj; cases hj; omega); clear g7) | (refine wpList_build (by rfl) 61 ([(0, .tmp 19), (1, .tmp 21), (2, .tmp 23)]) (by rfl) ([(0, .agg (labA l)), (1, .agg (labA v)), (2, .int .i64 t)]) (by rfl) (.agg CL) (hbd) ?_; simp only [Act.put, List.setIfInBounds_toArray, List.set_cons_succ, List.set_cons_zero]) | (go_at_call 90; (with_reducible refine (HD.out _ s9).mono ?_); rintro e w5 ⟨rfl, nd, rfl⟩; replace hb := below_drewN hb nd; try rw [hd]) | (go_at_call 69; (with_reducible refine (CK.out _).mono ?_); rintro e w6 ⟨rfl, h6⟩; replace hb := hb.trans (h6.mono hb.size)))
        go_ret2
        exact ⟨rfl, hb⟩
    · rw [if_neg hd0] at hE
      rw [hE, if_neg (by omega)] at hV
      subst hE hV
      have d1 : ((d : Int) == 0) = false := by rw [beq_eq_false_iff_ne]; omega
      generalize (leafC l v (t : Int)).toArray = CL at *
      go_enter Try.func54, Try.ntmps54
      go_wp2_with (first | (go_at_call 85; (with_reducible refine (HO.out).mono ?_); rintro e w1 ⟨rfl, s1, hb, -⟩) | (go_at_call 86; (with_reducible refine (HF.out _ s1).mono ?_); rintro e w2 ⟨rfl, s2, g2⟩; replace hb := below_grown hb hb.size g2 (by intro j hj; cases hj; omega); clear g2) | (go_at_call 88; first | ((with_reducible refine (HA.out _ s2).mono ?_); rintro e w3 ⟨rfl, s3, g3⟩; replace hb := below_grown hb hb.size g3 (by intro j hj; cases hj; omega); clear g3) | ((with_reducible refine (HB.out _ s3).mono ?_); rintro e w4 ⟨rfl, s4, g4⟩; replace hb := below_grown hb hb.size g4 (by intro j hj; cases hj; omega); clear g4)) | (go_at_call 89; (with_reducible refine (HC.out _ s4).mono ?_); rintro e w7 ⟨rfl, s9, g7⟩; replace hb := below_grown hb hb.size g7 (by intro j hj; cases hj; omega); clear g7) | (refine wpList_build (by rfl) 61 ([(0, .tmp 19), (1, .tmp 21), (2, .tmp 23)]) (by rfl) ([(0, .agg (labA l)), (1, .agg (labA v)), (2, .int .i64 t)]) (by rfl) (.agg CL) (hbd) ?_; simp only [Act.put, List.setIfInBounds_toArray, List.set_cons_succ, List.set_cons_zero]) | (go_at_call 90; (with_reducible refine (HD.out _ s9).mono ?_); rintro e w5 ⟨rfl, nd, rfl⟩; replace hb := below_drewN hb nd; try rw [hd]) | (go_at_call 69; (with_reducible refine (CK.out _).mono ?_); rintro e w6 ⟨rfl, h6⟩; replace hb := hb.trans (h6.mono hb.size)))
      go_ret2
      exact ⟨rfl, hb⟩
end Go.Proofs.Ytgjmnhbkdccgpaa

/- From RdA. -/
namespace Go.Proofs.Ytgjmnhbkdccgpaa
open Go.RowKit

def curV (s : List UInt8) (r : D.Rd) : Value := .agg #[.string ⟨s.toArray⟩, .int .i64 (r.loc : Int), .int .i64 (r.err : Int)]
theorem two_new (w : World) (a b : Array Value) (s t : TypeId) : Blk ((w.alloc (.cells a s)).alloc (.cells b t)) w.heap.size a s ∧ Blk ((w.alloc (.cells a s)).alloc (.cells b t)) (w.heap.size + 1) b t ∧ Below w.heap.size w ((w.alloc (.cells a s)).alloc (.cells b t)) := by
  have h := Blk.new (w.alloc (.cells a s)) b t
  rw [World.size_alloc] at h
  exact ⟨(Blk.new w a s).alloc _, h, (below_alloc1 w _).alloc (by rw [World.size_alloc]; omega) _⟩
theorem size_cur (a b c : Value) : (Try.prog.info? 129).map (·.size) = some (#[a, b, c] : Array Value).size := by
  rw [show (#[a, b, c] : Array Value).size = 3 from rfl]; kernel_rfl
theorem blk3 {w : World} {g : Nat} {a b c : Value} {t : TypeId} (h : Blk w g #[a, b, c] t) (x y z : Value) : Blk (((w.setCell ⟨g, 0, none⟩ x).setCell ⟨g, 1, none⟩ y).setCell ⟨g, 2, none⟩ z) g #[x, y, z] t ∧ Only g w (((w.setCell ⟨g, 0, none⟩ x).setCell ⟨g, 1, none⟩ y).setCell ⟨g, 2, none⟩ z) :=
  ⟨((h.set_ 0 x).set_ 1 y).set_ 2 z, ((Only.setCell w g 0 x).trans (Only.setCell _ g 1 y)).trans (Only.setCell _ g 2 z)⟩
theorem free3 {w : World} {g : Nat} {a b c : Value} {t : TypeId} (h : Blk w g #[a, b, c] t) : w.cell? ⟨g, 0, none⟩ = some a ∧ w.cell? ⟨g, 1, none⟩ = some b ∧ w.cell? ⟨g, 2, none⟩ = some c ∧ w.frozen? ⟨g, 0, none⟩ = false ∧ w.frozen? ⟨g, 1, none⟩ = false ∧ w.frozen? ⟨g, 2, none⟩ = false :=
  ⟨h.cellv rfl, h.cellv rfl, h.cellv rfl, h.free 0, h.free 1, h.free 2⟩
theorem barr_mid (b : List UInt8) (i j : Nat) : (⟨b.toArray⟩ : ByteArray).extract i (i + j) = ⟨((b.drop i).take j).toArray⟩ := by
  apply ByteArray.ext
  rw [ByteArray.data_extract]
  simp
set_option maxRecDepth 100000 in
set_option maxHeartbeats 2000000 in
theorem rtake_any (s : List UInt8) (hs : s.length ≤ 1000000) (r : D.Rd) (hr : r.loc ≤ s.length) (n : Nat) (hn : n ≤ 1000) {z : Int} (hz : (n : Int) = z) (w : World) :
    Calls Try.prog 117 #[curV s r, .int .i64 z] w fun e w' => e = .returned (.tuple #[curV s (D.take s r n).2, .string ⟨(D.take s r n).1.toArray⟩]) ∧ Below w.heap.size w w' := by
  subst hz
  obtain ⟨loc, err⟩ := r
  dsimp only at hr
  unfold curV
  dsimp only
  have hz : (⟨s.toArray⟩ : ByteArray).size = s.length := by simp [ByteArray.size]
  by_cases he : err = 0
  · subst he
    obtain ⟨q, hq⟩ : ∃ q, q = s.length - loc := ⟨_, rfl⟩
    have hw1 : IntKind.i64.wrap ((s.length : Int) - (loc : Int)) = (q : Int) := by rw [IntWalk.i64_in _ (by omega)]; omega
    by_cases hlt : q < n
    · have d1 : decide ((q : Int) < (n : Int)) = true := decide_eq_true (by omega)
      have d1' : decide (q < n) = true := decide_eq_true hlt
      have hR : D.take s ⟨loc, 0⟩ n = ([], ⟨loc, 5⟩) := by unfold D.take; rw [if_neg (by simp), if_pos (by rw [← hq]; exact hlt)]
      rw [hR]
      clear hR hq
      go_enter Try.func117, Try.ntmps117
      go_wp2
      obtain ⟨-, b1, hb⟩ := two_new w #[.string ⟨s.toArray⟩, .int .i64 (loc : Int), .int .i64 5] #[.string ⟨s.toArray⟩, .int .i64 (loc : Int), .int .i64 5] 129 129
      exact bodyPost_ret (v := .tuple #[.agg #[.string ⟨s.toArray⟩, .int .i64 (loc : Int), .int .i64 5], .string ⟨#[]⟩]) (results_blk2 (by rfl) _ b1 _ _ (by rfl) (by rfl) Try.underlying129 (by rfl) (size_cur _ _ _)) rfl ⟨rfl, hb⟩
    · have d1 : decide ((q : Int) < (n : Int)) = false := decide_eq_false (by omega)
      have d1' : decide (q < n) = false := decide_eq_false hlt
      have hR : D.take s ⟨loc, 0⟩ n = ((s.drop loc).take n, ⟨loc + n, 0⟩) := by unfold D.take; rw [if_neg (by simp), if_neg (by rw [← hq]; exact hlt)]
      have hw2 : IntKind.i64.wrap ((loc : Int) + (n : Int)) = ((loc + n : Nat) : Int) := by rw [IntWalk.i64_in _ (by omega)]; omega
      have hex := barr_mid s loc n
      obtain ⟨m, hm⟩ : ∃ m, m = loc + n := ⟨_, rfl⟩
      have b1 : loc ≤ m := by omega
      have b2 : m ≤ s.length := by omega
      have b3 : (loc : Int) ≤ (m : Int) := by omega
      have b4 : (m : Int) ≤ (s.length : Int) := by omega
      have b5 : (0 : Int) ≤ (loc : Int) := by omega
      have b6 : (0 : Int) ≤ (m : Int) := by omega
      rw [hR]
      rw [← hm] at hw2 hex ⊢
      clear hR hq hm
      generalize (s.drop loc).take n = t at *
      go_enter Try.func117, Try.ntmps117
      go_wp2
      obtain ⟨-, b1, hb⟩ := two_new w #[.string ⟨s.toArray⟩, .int .i64 (m : Int), .int .i64 0] #[.string ⟨s.toArray⟩, .int .i64 (m : Int), .int .i64 0] 129 129
      exact bodyPost_ret (v := .tuple #[.agg #[.string ⟨s.toArray⟩, .int .i64 (m : Int), .int .i64 0], .string ⟨t.toArray⟩]) (results_blk2 (by rfl) _ b1 _ _ (by rfl) (by rfl) Try.underlying129 (by rfl) (size_cur _ _ _)) rfl ⟨rfl, hb⟩
  · have e1 : ((err : Int) == 0) = false := by rw [beq_eq_false_iff_ne]; omega
    have hR : D.take s ⟨loc, err⟩ n = ([], ⟨loc, err⟩) := by unfold D.take; rw [if_pos (by simpa using he)]
    rw [hR]
    clear hR he
    go_enter Try.func117, Try.ntmps117
    go_wp2
    obtain ⟨-, b1, hb⟩ := two_new w #[.string ⟨s.toArray⟩, .int .i64 (loc : Int), .int .i64 (err : Int)] #[.string ⟨s.toArray⟩, .int .i64 (loc : Int), .int .i64 (err : Int)] 129 129
    exact bodyPost_ret (v := .tuple #[.agg #[.string ⟨s.toArray⟩, .int .i64 (loc : Int), .int .i64 (err : Int)], .string ⟨#[]⟩]) (results_blk2 (by rfl) _ b1 _ _ (by rfl) (by rfl) Try.underlying129 (by rfl) (size_cur _ _ _)) rfl ⟨rfl, hb⟩
set_option maxRecDepth 100000 in
set_option maxHeartbeats 1000000 in
theorem rfail2_any (s : List UInt8) (r : D.Rd) (k : Nat) {z : Int} (hz : (k : Int) = z) (w : World) :
    Calls Try.prog 118 #[curV s r, .int .i64 z] w fun e w' => e = .returned (curV s (D.fail r k)) ∧ Below w.heap.size w w' := by
  subst hz
  obtain ⟨loc, err⟩ := r
  unfold curV
  dsimp only
  by_cases he : err = 0
  · subst he
    have hR : D.fail ⟨loc, 0⟩ k = ⟨loc, k⟩ := by unfold D.fail; rw [if_pos rfl]
    rw [hR]
    go_enter Try.func118, Try.ntmps118
    go_wp2
    obtain ⟨-, b1, hb⟩ := two_new w #[.string ⟨s.toArray⟩, .int .i64 (loc : Int), .int .i64 (k : Int)] #[.string ⟨s.toArray⟩, .int .i64 (loc : Int), .int .i64 (k : Int)] 129 129
    exact bodyPost_ret (v := .agg #[.string ⟨s.toArray⟩, .int .i64 (loc : Int), .int .i64 (k : Int)]) (results_blk (by rfl) _ b1 _ (by rfl) Try.underlying129 (by rfl) (size_cur _ _ _)) rfl ⟨rfl, hb⟩
  · have e1 : ((err : Int) == 0) = false := by rw [beq_eq_false_iff_ne]; omega
    have hR : D.fail ⟨loc, err⟩ k = ⟨loc, err⟩ := by unfold D.fail; rw [if_neg he]
    rw [hR]
    clear he hR
    go_enter Try.func118, Try.ntmps118
    go_wp2
    obtain ⟨-, b1, hb⟩ := two_new w #[.string ⟨s.toArray⟩, .int .i64 (loc : Int), .int .i64 (err : Int)] #[.string ⟨s.toArray⟩, .int .i64 (loc : Int), .int .i64 (err : Int)] 129 129
    exact bodyPost_ret (v := .agg #[.string ⟨s.toArray⟩, .int .i64 (loc : Int), .int .i64 (err : Int)]) (results_blk (by rfl) _ b1 _ (by rfl) Try.underlying129 (by rfl) (size_cur _ _ _)) rfl ⟨rfl, hb⟩
set_option maxRecDepth 100000 in
set_option maxHeartbeats 1000000 in
theorem ropen2_any (s : List UInt8) (hs : s.length ≤ 65536) (w : World) :
    Calls Try.prog 92 #[.string ⟨s.toArray⟩] w fun e w' => e = .returned (curV s ⟨0, 0⟩) ∧ Below w.heap.size w w' := by
  have hz : (⟨s.toArray⟩ : ByteArray).size = s.length := by simp [ByteArray.size]
  have d1 : decide ((65536 : Int) < (s.length : Int)) = false := decide_eq_false (by omega)
  have d1' : decide (65536 < s.length) = false := decide_eq_false (by omega)
  unfold curV
  go_enter Try.func92, Try.ntmps92
  go_wp2
  have b1 := Blk.new w #[.string ⟨s.toArray⟩, .int .i64 0, .int .i64 0] 129
  have hb := below_alloc1 w (.cells #[.string ⟨s.toArray⟩, .int .i64 0, .int .i64 0] 129)
  exact bodyPost_ret (v := .agg #[.string ⟨s.toArray⟩, .int .i64 0, .int .i64 0]) (results_blk (by rfl) _ b1 _ (by rfl) Try.underlying129 (by rfl) (size_cur _ _ _)) rfl ⟨rfl, hb⟩
set_option maxRecDepth 100000 in
set_option maxHeartbeats 1000000 in
theorem rdone2_any (s : List UInt8) (r : D.Rd) (w : World) :
    Calls Try.prog 95 #[curV s r] w fun e w' => e = .returned (.int .i64 (D.done s r : Int)) ∧ Below w.heap.size w w' := by
  have hz : (⟨s.toArray⟩ : ByteArray).size = s.length := by simp [ByteArray.size]
  obtain ⟨loc, err⟩ := r
  unfold curV
  dsimp only
  by_cases he : err = 0
  · subst he
    by_cases hl : loc < s.length
    · have d1 : decide ((loc : Int) < (s.length : Int)) = true := decide_eq_true (by omega)
      have hR : D.done s ⟨loc, 0⟩ = 3 := by unfold D.done; rw [if_pos ⟨rfl, hl⟩]
      rw [hR]
      go_enter Try.func95, Try.ntmps95
      go_wp2
      go_ret
      exact ⟨rfl, below_alloc1 w _⟩
    · have d1 : decide ((loc : Int) < (s.length : Int)) = false := decide_eq_false (by omega)
      have d1' : decide (loc < s.length) = false := decide_eq_false hl
      have hR : D.done s ⟨loc, 0⟩ = 0 := by unfold D.done; rw [if_neg (fun h => hl h.2)]
      rw [hR]
      go_enter Try.func95, Try.ntmps95
      go_wp2
      go_ret
      exact ⟨rfl, below_alloc1 w _⟩
  · have e1 : ((err : Int) == 0) = false := by rw [beq_eq_false_iff_ne]; omega
    have hR : D.done s ⟨loc, err⟩ = err := by unfold D.done; rw [if_neg (fun h => he h.1)]
    rw [hR]
    clear he hR
    go_enter Try.func95, Try.ntmps95
    go_wp2
    go_ret
    exact ⟨rfl, below_alloc1 w _⟩
end Go.Proofs.Ytgjmnhbkdccgpaa

/- From RdB. -/
namespace Go.Proofs.Ytgjmnhbkdccgpaa
open Go.RowKit

namespace D
theorem take_cases (s : List UInt8) (r : Rd) (n : Nat) : ((take s r n).2.err ≠ 0 ∧ (take s r n).1 = []) ∨ ((take s r n).2.err = 0 ∧ (take s r n).1.length = n) := by
  by_cases h : (take s r n).2.err = 0
  · exact .inr ⟨h, (at_take h).2⟩
  · refine .inl ⟨h, ?_⟩
    unfold take at h ⊢
    split
    · rfl
    · split
      · rfl
      · rename_i h1 h2
        rw [if_neg h1, if_neg h2] at h
        exact absurd rfl h
end D
/-- Behind the stores of a cursor's cells into one block, then into another one. -/
theorem cur6 {g0 g1 : Nat} {W : World} {a b c a' b' c' : Value} (D0 : Blk W g0 #[a, b, c] 129) (R0 : Blk W g1 #[a', b', c'] 129) (hne : g1 ≠ g0) (x y z p q r : Value) :
    ∃ W', W' = ((((((W.setCell ⟨g0, 0, none⟩ x).setCell ⟨g0, 1, none⟩ y).setCell ⟨g0, 2, none⟩ z).setCell ⟨g1, 0, none⟩ p).setCell ⟨g1, 1, none⟩ q).setCell ⟨g1, 2, none⟩ r) ∧ Blk W' g1 #[p, q, r] 129 ∧ (∀ B X, B ≤ g0 → B ≤ g1 → Below B X W → Below B X W') := by
  obtain ⟨_, o0⟩ := blk3 D0 x y z
  obtain ⟨b2, o2⟩ := blk3 (R0.only o0 hne) p q r
  exact ⟨_, rfl, b2, fun B X h0 h1 h => o2.below (o0.below h h0) h1⟩
/-- Behind the stores into the first one. -/
theorem cur3 {g0 : Nat} {W : World} {a b c : Value} (D0 : Blk W g0 #[a, b, c] 129) (x y z : Value) :
    ∃ W', W' = (((W.setCell ⟨g0, 0, none⟩ x).setCell ⟨g0, 1, none⟩ y).setCell ⟨g0, 2, none⟩ z) ∧ Blk W' g0 #[x, y, z] 129 ∧ (∀ B X, B ≤ g0 → Below B X W → Below B X W') ∧ (∀ g cs t, Blk W g cs t → g ≠ g0 → Blk W' g cs t) := by
  obtain ⟨b0, o0⟩ := blk3 D0 x y z
  exact ⟨_, rfl, b0, fun B X h0 h => o0.below h h0, fun g cs t h hn => h.only o0 hn⟩
set_option maxRecDepth 100000 in
set_option maxHeartbeats 2000000 in
theorem rflag2_any (s : List UInt8) (hs : s.length ≤ 1000000) (r : D.Rd) (hr : r.loc ≤ s.length) (w : World) :
    Calls Try.prog 91 #[curV s r] w fun e w' => e = .returned (.tuple #[curV s (D.flag s r).2, .bool (D.flag s r).1]) ∧ Below w.heap.size w w' := by
  have hF : D.flag s r = if D.gt1 (D.take s r 1).1 = true then (false, D.fail (D.take s r 1).2 4) else ((D.take s r 1).1 == [1], (D.take s r 1).2) := rfl
  have TK := Lib.hid (fun W => rtake_any s hs r hr 1 (by omega) (z := 1) rfl W)
  have FL := Lib.hid (fun W => rfail2_any s (D.take s r 1).2 4 (z := 4) rfl W)
  have hc := D.take_cases s r 1
  generalize D.take s r 1 = T at *
  obtain ⟨t, ⟨loc1, err1⟩⟩ := T
  obtain ⟨loc, err⟩ := r
  unfold curV at TK FL ⊢
  dsimp only at hF TK FL hc ⊢
  obtain ⟨D0, R0, hB0⟩ := two_new w #[.string ⟨s.toArray⟩, .int .i64 (loc : Int), .int .i64 (err : Int)] #[.string ⟨#[]⟩, .int .i64 0, .int .i64 0] 129 129
  rcases hc with ⟨he, rfl⟩ | ⟨he, hl⟩
  · have e1 : ((err1 : Int) != 0) = true := by rw [bne_iff_ne]; omega
    have hF' : D.flag s ⟨loc, err⟩ = (false, ⟨loc1, err1⟩) := hF
    rw [hF']
    clear hF hF' FL he
    go_enter Try.func91, Try.ntmps91
    go_wp2_with (first | (go_at_call 117; go_loud ((with_reducible refine (TK.out _).mono ?_); rintro e w1 ⟨rfl, hb1⟩; have D1 := D0.at_ hb1; have R1 := R0.at_ hb1; have hB1 := hB0.trans (hb1.mono hB0.size); obtain ⟨x00, x01, x02, y00, y01, y02⟩ := free3 D1; obtain ⟨x10, x11, x12, y10, y11, y12⟩ := free3 R1)))
    obtain ⟨W6, hW6, b6, hB6⟩ := cur6 D1 R1 (by omega) (.string ⟨s.toArray⟩) (.int .i64 (loc1 : Int)) (.int .i64 (err1 : Int)) (.string ⟨s.toArray⟩) (.int .i64 (loc1 : Int)) (.int .i64 (err1 : Int))
    rw [← hW6]
    exact bodyPost_ret (v := .tuple #[.agg #[.string ⟨s.toArray⟩, .int .i64 (loc1 : Int), .int .i64 (err1 : Int)], .bool false]) (results_blk2 (by rfl) _ b6 _ _ (by rfl) (by rfl) Try.underlying129 (by rfl) (size_cur _ _ _)) rfl ⟨rfl, hB6 _ _ (Nat.le_refl _) (by omega) hB1⟩
  · subst he
    obtain ⟨c, rfl⟩ : ∃ c, t = [c] := by
      match t, hl with
      | [c], _ => exact ⟨c, rfl⟩
    have hix := fun W => str_index_ [c] 0 0 rfl (by simp) W
    simp only [List.getD_cons_zero] at hix
    by_cases h1 : 1 < c.toNat
    · have d1 : decide ((1 : Int) < (c.toNat : Int)) = true := decide_eq_true (by omega)
      have hF' : D.flag s ⟨loc, err⟩ = (false, D.fail ⟨loc1, 0⟩ 4) := by
        rw [hF, if_pos (by show (decide (1 < c.toNat) || _) = true; rw [decide_eq_true h1]; rfl)]
      rw [hF']
      have hfl : D.fail ⟨loc1, 0⟩ 4 = ⟨loc1, 4⟩ := by unfold D.fail; rw [if_pos rfl]
      rw [hfl] at FL ⊢
      dsimp only at FL ⊢
      rw [show ((0 : Nat) : Int) = 0 from rfl] at TK FL
      rw [show ((4 : Nat) : Int) = 4 from rfl] at FL ⊢
      clear hF hF' hl hfl
      go_enter Try.func91, Try.ntmps91
      go_wp2_with (first | (go_at_call 117; go_loud ((with_reducible refine (TK.out _).mono ?_); rintro e w1 ⟨rfl, hb1⟩; have D1 := D0.at_ hb1; have R1 := R0.at_ hb1; have hB1 := hB0.trans (hb1.mono hB0.size); obtain ⟨x00, x01, x02, y00, y01, y02⟩ := free3 D1; obtain ⟨x10, x11, x12, y10, y11, y12⟩ := free3 R1)) | (go_at_call 118; go_loud (obtain ⟨W3, hW3, D3, hB3, hR3⟩ := cur3 D1 (.string ⟨s.toArray⟩) (.int .i64 (loc1 : Int)) (.int .i64 0); rw [← hW3]; have R3 := hR3 _ _ _ R1 (by omega); have hB4 := hB3 _ _ (Nat.le_refl _) hB1; (with_reducible refine (FL.out _).mono ?_); rintro e w2 ⟨rfl, hb2⟩; have R2 := R3.at_ hb2; have hB2 := hB4.trans (hb2.mono hB4.size); obtain ⟨z10, z11, z12, u10, u11, u12⟩ := free3 R2)))
      obtain ⟨b6, o6⟩ := blk3 R2 (.string ⟨s.toArray⟩) (.int .i64 (loc1 : Int)) (.int .i64 4)
      exact bodyPost_ret (v := .tuple #[.agg #[.string ⟨s.toArray⟩, .int .i64 (loc1 : Int), .int .i64 4], .bool false]) (results_blk2 (by rfl) _ b6 _ _ (by rfl) (by rfl) Try.underlying129 (by rfl) (size_cur _ _ _)) rfl ⟨rfl, o6.below hB2 (by omega)⟩
    · have d1 : decide ((1 : Int) < (c.toNat : Int)) = false := decide_eq_false (by omega)
      have hF' : D.flag s ⟨loc, err⟩ = ([c] == [1], ⟨loc1, 0⟩) := by
        rw [hF, if_neg (by show ¬ (decide (1 < c.toNat) || (c.toNat == 1 && false)) = true; rw [decide_eq_false h1]; simp)]
      have hcb : ([c] == [1]) = ((c.toNat : Int) == 1) := by
        have e5 : (c == 1) = (c.toNat == 1) := by rw [Bool.eq_iff_iff, beq_iff_eq, beq_iff_eq]; exact ⟨fun h => by rw [h]; rfl, fun h => UInt8.toNat_inj.1 h⟩
        show (c == 1 && true) = _
        rw [Bool.and_true, e5, Bool.eq_iff_iff, beq_iff_eq, beq_iff_eq]
        omega
      rw [hcb] at hF'
      rw [hF']
      rw [show ((0 : Nat) : Int) = 0 from rfl] at TK
      clear hF hF' hl FL hcb
      go_enter Try.func91, Try.ntmps91
      go_wp2_with (first | (go_at_call 117; go_loud ((with_reducible refine (TK.out _).mono ?_); rintro e w1 ⟨rfl, hb1⟩; have D1 := D0.at_ hb1; have R1 := R0.at_ hb1; have hB1 := hB0.trans (hb1.mono hB0.size); obtain ⟨x00, x01, x02, y00, y01, y02⟩ := free3 D1; obtain ⟨x10, x11, x12, y10, y11, y12⟩ := free3 R1)))
      obtain ⟨W3, hW3, D3, hB3, hR3⟩ := cur3 D1 (.string ⟨s.toArray⟩) (.int .i64 (loc1 : Int)) (.int .i64 0)
      rw [← hW3]
      have R3 := hR3 _ _ _ R1 (by omega)
      have hB4 := hB3 _ _ (Nat.le_refl _) hB1
      clear x00 x01 x02 y00 y01 y02 x10 x11 x12 y10 y11 y12 hW3 hB3 hR3 D1 R1 hb1
      obtain ⟨x00, x01, x02, y00, y01, y02⟩ := free3 D3
      obtain ⟨x10, x11, x12, y10, y11, y12⟩ := free3 R3
      go_region
      go_wp2
      obtain ⟨b6, o6⟩ := blk3 R3 (.string ⟨s.toArray⟩) (.int .i64 (loc1 : Int)) (.int .i64 0)
      exact bodyPost_ret (v := .tuple #[.agg #[.string ⟨s.toArray⟩, .int .i64 (loc1 : Int), .int .i64 0], .bool ((c.toNat : Int) == 1)]) (results_blk2 (by rfl) _ b6.drew _ _ (by rfl) (by rfl) Try.underlying129 (by rfl) (size_cur _ _ _)) rfl ⟨rfl, (o6.below hB4 (by omega)).drew⟩
end Go.Proofs.Ytgjmnhbkdccgpaa

/- From RelC. -/
namespace Go.Proofs.Ytgjmnhbkdccgpaa
open Go.RowKit

/-- Only the blocks of the list may have changed. -/
structure Keep (gs : List Nat) (w w' : World) : Prop where
  os : w'.os = w.os
  tape : w'.tape = w.tape
  output : w'.output = w.output
  size : w'.heap.size = w.heap.size
  block : ∀ k, k ∉ gs → w'.heap[k]? = w.heap[k]?
theorem Keep.refl (gs : List Nat) (w : World) : Keep gs w w := ⟨rfl, rfl, rfl, rfl, fun _ _ => rfl⟩
theorem Keep.trans {gs : List Nat} (a b c : World) (h : Keep gs a b) (k : Keep gs b c) : Keep gs a c :=
  ⟨k.os.trans h.os, k.tape.trans h.tape, k.output.trans h.output, k.size.trans h.size, fun j hj => (k.block j hj).trans (h.block j hj)⟩
theorem Keep.only {gs : List Nat} {g : Nat} {w w' : World} (h : Only g w w') (hg : g ∈ gs) : Keep gs w w' :=
  ⟨h.os, h.tape, h.output, h.size, fun k hk => h.block k fun e => hk (e ▸ hg)⟩
theorem Keep.below {gs : List Nat} {B : Nat} {a w w' : World} (h : Keep gs w w') (hb : Below B a w) (hg : ∀ g ∈ gs, B ≤ g) : Below B a w' :=
  ⟨h.os.trans hb.os, h.tape.trans hb.tape, h.output.trans hb.output, by rw [h.size]; exact hb.size, fun k hk => (h.block k fun hm => by have := hg k hm; omega).trans (hb.block k hk)⟩
theorem Blk.keep {gs : List Nat} {w w' : World} {g : Nat} {cs : Array Value} {t : TypeId} (h : Blk w g cs t) (k : Keep gs w w') (hg : g ∉ gs) : Blk w' g cs t := (k.block g hg).trans h
/-- A store of such a region: the operation's number, the block, what it held, what it holds then, its type. -/
structure CSt where
  i : Nat
  g : Nat
  O : Array Value
  C : Array Value
  t : TypeId
def CPh (n : Nat) (st : List CSt) (L : Array Bool) (_ : Act) (w : World) : Prop := L.size = n ∧ ∀ x ∈ st, Blk w x.g (if L.getD x.i false = true then x.C else x.O) x.t
section
variable {P : Program} {n : Nat} {st : List CSt} {gs : List Nat} {R : Value → World → Prop} {i : Nat} {o : Oper} {L : Array Bool} {a : Act} {w : World}
theorem getD_set_ne {L : Array Bool} {i j : Nat} (h : j ≠ i) : (L.setIfInBounds i true).getD j false = L.getD j false := by
  simp only [Array.getD_eq_getD_getElem?]
  rw [Array.getElem?_setIfInBounds_ne (Ne.symm h)]
theorem getD_set_eq {L : Array Bool} {i : Nat} (h : i < L.size) : (L.setIfInBounds i true).getD i false = true := by
  simp only [Array.getD_eq_getD_getElem?]
  rw [Array.getElem?_setIfInBounds_self_of_lt h]
  rfl
/-- An operation that stores nothing. -/
theorem copy_val {v : Value} (hP : CPh n st L a w) (hi : ∀ x ∈ st, x.i ≠ i) (hR : R v w) : Left (Keep gs) (CPh n st) R i o L a w (a.put o.dst v) w :=
  left_intro hR (Keep.refl _ _) ⟨by rw [Array.size_setIfInBounds]; exact hP.1, fun x hx => by rw [getD_set_ne (hi x hx)]; exact hP.2 x hx⟩
/-- A store. -/
theorem copy_store {Q : Exit → Act → World → Prop} (hP : CPh n st L a w) (s : CSt) (hs : s ∈ st) (hi : s.i = i) (hin : i < n) (hself : L.getD i false = false) (hgs : s.g ∈ gs) (hap : ∀ x ∈ st, x.i ≠ i → x.g ≠ s.g) (hun : ∀ x ∈ st, x.i = i → x = s)
    (ty : TypeId) (x y : Operand) (ho : o.op = .store ty x y) (hx : a.eval x = .pointer (some ⟨s.g, 0, none⟩)) (hy : a.eval y = .agg s.C) (hsz : s.C.size = s.O.size) (hinf : (P.info? ty).map (·.size) = some s.C.size) (h1 : s.C.all (·.oneCell') = true) :
    o.wp P a w (Left (Keep gs) (CPh n st) anyv i o L a w) Q := by
  have hb := hP.2 s hs
  rw [hi, hself] at hb
  have hb : Blk w s.g s.O s.t := hb
  refine wp_store_mid ty x y ho s.g 0 s.C hx hy (fun j hj => ⟨?_, hb.free _⟩) hinf h1 ?_
  · rw [hb.cell, Array.getElem?_eq_getElem (by omega)]; rfl
  · obtain ⟨k1, k2⟩ := setCells_blk (g := s.g) (t := s.t) s.C.toList w 0 s.O hb (by rw [Array.length_toList]; omega)
    have e : splice s.O 0 s.C.toList.toArray = s.C := by
      rw [show s.C.toList.toArray = s.C by simp]
      exact splice_all _ _ hsz.symm
    rw [e] at k1
    refine left_intro (v := undef) trivial (Keep.only k2 hgs) ⟨by rw [Array.size_setIfInBounds]; exact hP.1, fun z hz => ?_⟩
    by_cases hzi : z.i = i
    · obtain rfl := hun z hz hzi
      rw [hzi, getD_set_eq (by rw [hP.1]; exact hin)]
      exact k1
    · rw [getD_set_ne hzi]
      exact (hP.2 z hz).only k2 (hap z hz hzi)
/-- A whole value that is loaded. -/
theorem copy_load {Q : Exit → Act → World → Prop} {K : Act → World → Prop} {w0 : World} (ty : TypeId) (x : Operand) (ho : o.op = .load ty x) (g : Nat) (hx : a.eval x = .pointer (some ⟨g, 0, none⟩)) {cs : Array Value} {t : TypeId}
    (b : Blk w0 g cs t) (hT : Keep gs w0 w) (hg : g ∉ gs) (d : TypeDesc) (hu : P.underlying ty = some d) (hd : d.isRow = true) (hi : (P.info? ty).map (·.size) = some cs.size) (hk : K (a.put o.dst (.agg cs)) w) : o.wp P a w K Q := by
  refine wp_load_mid ty x ho g 0 hx cs.toList d (blk_range (b.keep hT hg) (fun j _ => by rw [Nat.zero_add])) hu hd (by rw [Array.length_toList]; exact hi) ?_
  rw [show cs.toList.toArray = cs by simp]
  exact hk
end
theorem relEnd_all {Rel : List (Value → World → Prop)} {w : World} {K : Act → Prop} (h : ∀ a, K a) : ∀ (l : List Oper) (i : Nat) (a : Act), relEnd Rel w K i l a
  | [], _, _ => h _
  | o :: l, i, a => by
    rw [relEnd]
    cases hod : o.dst with
    | none => exact relEnd_all h l (i + 1) a
    | some d => exact fun v _ => relEnd_all h l (i + 1) _
theorem wp_region_copy {P : Program} {id : Nat} {Q : Exit → Act → World → Prop} {a : Act} {w : World} {l : List Oper} (n : Nat) (hn : l.length = n) (st : List CSt) (gs : List Nat) (S : List (List (Nat × Option Nat))) (Rel : List (Value → World → Prop))
    (hm : P.follows .mixedOrders = true) (hB : relB a.tmps.size l S = true) (hmono : MonoAll (Keep gs) Rel) (hlt : ∀ x ∈ st, x.i < n) (h0 : ∀ x ∈ st, Blk w x.g x.O x.t)
    (hobs : Obs P l (Keep gs) (CPh n st) Rel Q a w.drew 0 l S)
    (hend : ∀ w', Keep gs w w' → (∀ x ∈ st, Blk w' x.g x.C x.t) → relEnd Rel w' (fun a => Q .normal a w') 0 l a) : (Code.region id l.toArray true).wp P Q a w := by
  refine wp_region_rel (Keep gs) (CPh n st) S Rel hm hB (Keep.refl gs) Keep.trans hmono.all ⟨by simp [hn], fun x hx => ?_⟩ hobs ?_
  · have : (Array.replicate l.length false).getD x.i false = false := by
      have := hlt x hx
      simp [hn, this]
    rw [this]
    exact h0 x hx
  · intro L w' hT hall
    have hK : Keep gs w w' := ⟨hT.os, hT.tape, hT.output, hT.size, hT.block⟩
    by_cases hc : CPh n st L a w'
    · refine relEnd_mono (fun b h _ => h) _ _ _ (hend w' hK fun x hx => ?_)
      have := hc.2 x hx
      rw [hall x.i (by rw [hn]; exact hlt x hx)] at this
      exact this
    · exact relEnd_all (fun b hb => absurd hb hc) _ _ _
/-! ### the same where calls make memory -/
/-- What was there is as it was, but for the blocks of the list. -/
structure KeepB (gs : List Nat) (w w' : World) : Prop where
  os : w'.os = w.os
  tape : w'.tape = w.tape
  output : w'.output = w.output
  size : w.heap.size ≤ w'.heap.size
  block : ∀ k, k < w.heap.size → k ∉ gs → w'.heap[k]? = w.heap[k]?
theorem KeepB.refl (gs : List Nat) (w : World) : KeepB gs w w := ⟨rfl, rfl, rfl, Nat.le_refl _, fun _ _ _ => rfl⟩
theorem KeepB.trans {gs : List Nat} (a b c : World) (h : KeepB gs a b) (k : KeepB gs b c) : KeepB gs a c :=
  ⟨k.os.trans h.os, k.tape.trans h.tape, k.output.trans h.output, Nat.le_trans h.size k.size, fun j hl hj => (k.block j (Nat.lt_of_lt_of_le hl h.size) hj).trans (h.block j hl hj)⟩
theorem KeepB.only {gs : List Nat} {g : Nat} {w w' : World} (h : Only g w w') (hg : g ∈ gs) : KeepB gs w w' :=
  ⟨h.os, h.tape, h.output, Nat.le_of_eq h.size.symm, fun k _ hk => h.block k fun e => hk (e ▸ hg)⟩
theorem KeepB.of {gs : List Nat} {w w' : World} (h : Below w.heap.size w w') : KeepB gs w w' := ⟨h.os, h.tape, h.output, h.size, fun k hk _ => h.block k hk⟩
theorem KeepB.below {gs : List Nat} {B : Nat} {a w w' : World} (h : KeepB gs w w') (hb : Below B a w) (hB : B ≤ w.heap.size) (hg : ∀ g ∈ gs, B ≤ g) : Below B a w' :=
  ⟨h.os.trans hb.os, h.tape.trans hb.tape, h.output.trans hb.output, Nat.le_trans hb.size h.size, fun k hk => (h.block k (Nat.lt_of_lt_of_le hk hB) fun hm => by have := hg k hm; omega).trans (hb.block k hk)⟩
theorem Blk.keepB {gs : List Nat} {w w' : World} {g : Nat} {cs : Array Value} {t : TypeId} (h : Blk w g cs t) (k : KeepB gs w w') (hg : g ∉ gs) : Blk w' g cs t := (k.block g h.lt hg).trans h
section
variable {P : Program} {n : Nat} {st : List CSt} {gs : List Nat} {R : Value → World → Prop} {i : Nat} {o : Oper} {L : Array Bool} {a : Act} {w : World}
theorem copyB_val {v : Value} (hP : CPh n st L a w) (hi : ∀ x ∈ st, x.i ≠ i) (hR : R v w) : Left (KeepB gs) (CPh n st) R i o L a w (a.put o.dst v) w :=
  left_intro hR (KeepB.refl _ _) ⟨by rw [Array.size_setIfInBounds]; exact hP.1, fun x hx => by rw [getD_set_ne (hi x hx)]; exact hP.2 x hx⟩
/-- A call that only makes memory. -/
theorem copyB_call {v : Value} {w' : World} (hP : CPh n st L a w) (hi : ∀ x ∈ st, x.i ≠ i) (hb : Below w.heap.size w w') (hR : R v w') : Left (KeepB gs) (CPh n st) R i o L a w (a.put o.dst v) w' :=
  left_intro hR (KeepB.of hb) ⟨by rw [Array.size_setIfInBounds]; exact hP.1, fun x hx => by rw [getD_set_ne (hi x hx)]; exact (hP.2 x hx).at_ hb⟩
theorem copyB_store {Q : Exit → Act → World → Prop} (hP : CPh n st L a w) (s : CSt) (hs : s ∈ st) (hi : s.i = i) (hin : i < n) (hself : L.getD i false = false) (hgs : s.g ∈ gs) (hap : ∀ x ∈ st, x.i ≠ i → x.g ≠ s.g) (hun : ∀ x ∈ st, x.i = i → x = s)
    (ty : TypeId) (x y : Operand) (ho : o.op = .store ty x y) (hx : a.eval x = .pointer (some ⟨s.g, 0, none⟩)) (hy : a.eval y = .agg s.C) (hsz : s.C.size = s.O.size) (hinf : (P.info? ty).map (·.size) = some s.C.size) (h1 : s.C.all (·.oneCell') = true) :
    o.wp P a w (Left (KeepB gs) (CPh n st) anyv i o L a w) Q := by
  have h := copy_store (gs := gs) (Q := Q) hP s hs hi hin hself hgs hap hun ty x y ho hx hy hsz hinf h1
  refine Oper.wp_mono (fun a' w' => ?_) h
  rintro ⟨v, e, hR, hT, hPh⟩
  exact ⟨v, e, hR, ⟨hT.os, hT.tape, hT.output, Nat.le_of_eq hT.size.symm, fun k _ hk => hT.block k hk⟩, hPh⟩
theorem copyB_load {Q : Exit → Act → World → Prop} {K : Act → World → Prop} {w0 : World} (ty : TypeId) (x : Operand) (ho : o.op = .load ty x) (g : Nat) (hx : a.eval x = .pointer (some ⟨g, 0, none⟩)) {cs : Array Value} {t : TypeId}
    (b : Blk w0 g cs t) (hT : KeepB gs w0 w) (hg : g ∉ gs) (d : TypeDesc) (hu : P.underlying ty = some d) (hd : d.isRow = true) (hi : (P.info? ty).map (·.size) = some cs.size) (hk : K (a.put o.dst (.agg cs)) w) : o.wp P a w K Q := by
  refine wp_load_mid ty x ho g 0 hx cs.toList d (blk_range (b.keepB hT hg) (fun j _ => by rw [Nat.zero_add])) hu hd (by rw [Array.length_toList]; exact hi) ?_
  rw [show cs.toList.toArray = cs by simp]
  exact hk
/-- A block of the list that is loaded ahead of its store. -/
theorem cph_old (hP : CPh n st L a w) (s : CSt) (hs : s ∈ st) (hL : L.getD s.i false = false) : Blk w s.g s.O s.t := by
  have := hP.2 s hs
  rw [hL] at this
  exact this
end
theorem wp_region_copyB {P : Program} {id : Nat} {Q : Exit → Act → World → Prop} {a : Act} {w : World} {l : List Oper} (n : Nat) (hn : l.length = n) (st : List CSt) (gs : List Nat) (S : List (List (Nat × Option Nat))) (Rel : List (Value → World → Prop))
    (hm : P.follows .mixedOrders = true) (hB : relB a.tmps.size l S = true) (hmono : MonoAll (KeepB gs) Rel) (hlt : ∀ x ∈ st, x.i < n) (h0 : ∀ x ∈ st, Blk w x.g x.O x.t)
    (hobs : Obs P l (KeepB gs) (CPh n st) Rel Q a w.drew 0 l S)
    (hend : ∀ w', KeepB gs w w' → (∀ x ∈ st, Blk w' x.g x.C x.t) → relEnd Rel w' (fun a => Q .normal a w') 0 l a) : (Code.region id l.toArray true).wp P Q a w := by
  refine wp_region_rel (KeepB gs) (CPh n st) S Rel hm hB (KeepB.refl gs) KeepB.trans hmono.all ⟨by simp [hn], fun x hx => ?_⟩ hobs ?_
  · have : (Array.replicate l.length false).getD x.i false = false := by
      have := hlt x hx
      simp [hn, this]
    rw [this]
    exact h0 x hx
  · intro L w' hT hall
    have hK : KeepB gs w w' := ⟨hT.os, hT.tape, hT.output, hT.size, hT.block⟩
    by_cases hc : CPh n st L a w'
    · refine relEnd_mono (fun b h _ => h) _ _ _ (hend w' hK fun x hx => ?_)
      have := hc.2 x hx
      rw [hall x.i (by rw [hn]; exact hlt x hx)] at this
      exact this
    · exact relEnd_all (fun b hb => absurd hb hc) _ _ _
end Go.Proofs.Ytgjmnhbkdccgpaa

/- From RdC. -/
namespace Go.Proofs.Ytgjmnhbkdccgpaa
open Go.RowKit

theorem one_cur (s : ByteArray) (a b : Int) : (#[.string s, .int .i64 a, .int .i64 b] : Array Value).all (·.oneCell') = true := by simp [Value.oneCell']
theorem zero_lab2 (w : World) : (Instr.build 25 #[]).run Try.prog w = .ok (.agg (labA zlab)) w := by kernel_rfl
/-- Two results that lie in blocks. -/
theorem results_two {P : Program} {w : World} {g g' : Nat} {t t' : TypeId} {fn : Func} {p q : Tmp} {ty ty' : TypeId} (hr : fn.results = #[.cell p ty, .cell q ty']) (tmps : Array Value) {C C' : Array Value} (h : Blk w g C t) (h' : Blk w g' C' t') (d d' : TypeDesc)
    (hp : tmps.getD p undef = .pointer (some ⟨g, 0, none⟩)) (hq : tmps.getD q undef = .pointer (some ⟨g', 0, none⟩)) (hu : P.underlying ty = some d) (hd : (match d with | .struct _ | .array _ _ => true | _ => false) = true) (hi : (P.info? ty).map (·.size) = some C.size)
    (hu' : P.underlying ty' = some d') (hd' : (match d' with | .struct _ | .array _ _ => true | _ => false) = true) (hi' : (P.info? ty').map (·.size) = some C'.size) :
    (results fn tmps).run P w = .ok (.tuple #[.agg C, .agg C']) w := by
  have hp' : tmps[p]?.getD undef = .pointer (some ⟨g, 0, none⟩) := by simpa using hp
  have hq' : tmps[q]?.getD undef = .pointer (some ⟨g', 0, none⟩) := by simpa using hq
  simp [results, hr, hp', hq', asAddr, run_loadVar_row w g t ty C (0, 0) d h hu hd hi, run_loadVar_row w g' t' ty' C' (0, 0) d' h' hu' hd' hi']
theorem lab_next (t : List UInt8) (k : Nat) (hk : k < t.length) (ht : t.length ≤ 32) : (t.take k ++ zlab.drop k).set k (t.getD k 0) = t.take (k + 1) ++ zlab.drop (k + 1) := by
  have hz : k < zlab.length := by rw [zlab_length]; omega
  rw [List.set_append_right _ _ (by rw [List.length_take]; omega), List.length_take, show k - min k t.length = 0 by omega, List.drop_eq_getElem_cons hz, List.set_cons_zero, List.take_succ_eq_append_getElem hk, List.append_assoc, List.getD_eq_getElem?_getD, List.getElem?_eq_getElem hk]
  rfl
set_option maxRecDepth 100000 in
set_option maxHeartbeats 2000000 in
theorem rlabel2_any (s : List UInt8) (hs : s.length ≤ 1000000) (r : D.Rd) (hr : r.loc ≤ s.length) (w : World) :
    Calls Try.prog 120 #[curV s r] w fun e w' => e = .returned (.tuple #[curV s (D.label s r).2, .agg (labA (D.label s r).1)]) ∧ Below w.heap.size w w' := by
  have hF : D.label s r = ((D.take s r 32).1 ++ zlab.drop (D.take s r 32).1.length, (D.take s r 32).2) := rfl
  have TK := Lib.hid (fun W => rtake_any s hs r hr 32 (by omega) (z := 32) rfl W)
  have htl := D.take_length s r 32
  rw [hF]
  clear hF
  generalize D.take s r 32 = T at *
  obtain ⟨t, ⟨loc1, err1⟩⟩ := T
  obtain ⟨loc, err⟩ := r
  unfold curV at TK ⊢
  dsimp only at TK htl ⊢
  obtain ⟨D00, R00, hB00⟩ := two_new w #[.string ⟨s.toArray⟩, .int .i64 (loc : Int), .int .i64 (err : Int)] #[.string ⟨#[]⟩, .int .i64 0, .int .i64 0] 129 129
  obtain ⟨W0, hW0⟩ : ∃ W, W = (w.alloc (.cells #[.string ⟨s.toArray⟩, .int .i64 (loc : Int), .int .i64 (err : Int)] 129)).alloc (.cells #[.string ⟨#[]⟩, .int .i64 0, .int .i64 0] 129) := ⟨_, rfl⟩
  have hs0 : W0.heap.size = w.heap.size + 2 := by rw [hW0]; simp only [World.size_alloc]
  rw [← hW0] at D00 R00 hB00
  obtain ⟨L00, Q00, hB01⟩ := two_new W0 (labA zlab) (labA zlab) 25 25
  rw [hs0] at L00 Q00
  have D01 := D00.at_ hB01
  have R01 := R00.at_ hB01
  have hB02 := hB00.trans (hB01.mono hB00.size)
  rw [hW0] at L00 Q00 D01 R01 hB02
  clear hB01 hB00 D00 R00 hs0 hW0
  have hzl : (Try.prog.info? 25).map (·.size) = some (labA zlab).size := by rw [labA_size, zlab_length]; kernel_rfl
  have hfz : 0 + (labA zlab).size ≤ (labA zlab).size := by omega
  have hoz := labA_all zlab
  have hsp := splice_all (labA zlab) (labA zlab) rfl
  go_enter Try.func120, Try.ntmps120
  go_wp2_with (first | (refine wpList_fresh (by rfl) 25 (by rfl) _ fresh_lab1 ?_; simp only [Act.put, List.setIfInBounds_toArray, List.set_cons_succ, List.set_cons_zero]; try simp only [World.size_alloc]) | (refine wpList_zero (by rfl) 25 (by rfl) _ zero_lab2 ?_; simp only [Act.put, List.setIfInBounds_toArray, List.set_cons_succ, List.set_cons_zero]) | ((refine wpList_store_blk (by rfl) 25 (.tmp 4) (.tmp 7) (by rfl) (0) (labA zlab) (by rfl) (by rfl) (Q00) (hfz) hzl (hoz) ?_; simp only [Act.put]); go_loud (intro w2 q2 o2; rw [hsp] at q2; have D0 := D01.only o2 (by omega); have R0 := R01.only o2 (by omega); have L0 := L00.only o2 (by omega); have hB0 := o2.below hB02 (by omega); obtain ⟨x00, x01, x02, y00, y01, y02⟩ := free3 D0)) | (go_at_call 117; go_loud ((with_reducible refine (TK.out _).mono ?_); rintro e w1 ⟨rfl, hb1⟩; have D1 := D0.at_ hb1; have R1 := R0.at_ hb1; have L1 := L0.at_ hb1; have Q1 := q2.at_ hb1; have hB1 := hB0.trans (hb1.mono hB0.size); clear x00 x01 x02 y00 y01 y02; obtain ⟨x00, x01, x02, y00, y01, y02⟩ := free3 D1)))
  obtain ⟨W3, hW3, D3, hB3, hR3⟩ := cur3 D1 (.string ⟨s.toArray⟩) (.int .i64 (loc1 : Int)) (.int .i64 (err1 : Int))
  rw [← hW3]
  have R3 := hR3 _ _ _ R1 (by omega)
  have L3 := hR3 _ _ _ L1 (by omega)
  have Q3 := hR3 _ _ _ Q1 (by omega)
  have hB4 := hB3 _ _ (Nat.le_refl _) hB1
  have Q3' : Blk W3 (w.heap.size + 1 + 1 + 1) (labA zlab) 25 := Q3
  have L3' : Blk W3 (w.heap.size + 1 + 1) (labA zlab) 25 := L3
  clear x00 x01 x02 y00 y01 y02 hW3 hB3 hR3 D1 R1 L1 Q1 D0 R0 L0 q2 o2 hb1 hB0 D01 R01 L00 Q00 hB02 hsp hfz hoz hB1 Q3 L3
  go_loopw [6] (fun i wr => ∃ k : Nat, k ≤ t.length ∧ i = .int .i64 (k : Int) ∧ Blk wr (w.heap.size + 1 + 1 + 1) (labA (t.take k ++ zlab.drop k)) 25 ∧ Keep [w.heap.size + 1 + 1 + 1] W3 wr) (fun i _ => t.length - (intOf i).toNat)
  case atStart => exact ⟨0, Nat.zero_le _, rfl, Q3', Keep.refl _ _⟩
  case round =>
    clear Q3'
    obtain ⟨k, hk, rfl, Q, hK⟩ := hrel
    have q0 : (0 : Int) ≤ (k : Int) := by omega
    have hz : (⟨t.toArray⟩ : ByteArray).size = t.length := by simp [ByteArray.size]
    by_cases hm : k < t.length
    · have d1 : decide ((k : Int) < (t.length : Int)) = true := decide_eq_true (by omega)
      have d1' : decide (k < t.length) = true := decide_eq_true hm
      have q1 : (k : Int) < 32 := by omega
      have q2 : k < 32 := by omega
      have hw1 : IntKind.i64.wrap ((k : Int) + 1) = ((k + 1 : Nat) : Int) := by rw [IntWalk.i64_in _ (by omega)]; omega
      have hix := fun W => str_index_ t k (k : Int) rfl hm W
      have hll : (t.take k ++ zlab.drop k).length = 32 := by rw [List.length_append, List.length_take, List.length_drop, zlab_length]; omega
      have cq := Q.cellv (labA_get (t.take k ++ zlab.drop k) k (by omega))
      have fq := Q.free k
      have Q2 := Q.set_ k (byteV (t.getD k 0))
      rw [labA_set, lab_next t k hm htl] at Q2
      have hK2 := Keep.trans _ _ _ hK (Keep.only (gs := [w.heap.size + 1 + 1 + 1]) (Only.setCell wr (w.heap.size + 1 + 1 + 1) k (byteV (t.getD k 0))) (List.mem_cons_self ..))
      have HQ := Lib.hid Q2
      have HK := Lib.hid hK2
      have HM := Lib.hid hm
      clear Q2 hK2 hll hm
      go_wp2
      go_roundw
      case rel => exact ⟨k + 1, HM.out, by rfl, HQ.out, HK.out⟩
      case measure => have := HM.out; simp [intOf]; omega
    · have d1 : decide ((k : Int) < (t.length : Int)) = false := decide_eq_false (by omega)
      have d1' : decide (k < t.length) = false := decide_eq_false hm
      obtain rfl : k = t.length := by omega
      rw [List.take_length] at Q
      have hll : (t ++ zlab.drop t.length).length = 32 := by rw [List.length_append, List.length_drop, zlab_length]; omega
      have D4 := D3.keep hK (by intro h; rcases List.mem_cons.1 h with h | h; omega; cases h)
      have R4 := R3.keep hK (by intro h; rcases List.mem_cons.1 h with h | h; omega; cases h)
      have L4 := L3'.keep hK (by intro h; rcases List.mem_cons.1 h with h | h; omega; cases h)
      have hB5 := hK.below hB4 (by intro g hg; rcases List.mem_cons.1 hg with h | h; omega; cases h)
      generalize hLL : t ++ zlab.drop t.length = LL at *
      have HLL := Lib.hid hLL
      clear hLL
      have hzL : (Try.prog.info? 25).map (·.size) = some (labA LL).size := by rw [labA_size, hll]; kernel_rfl
      have heq : (labA LL).size = (labA zlab).size := by rw [labA_size, labA_size, hll]; rfl
      clear htl hk hm
      go_wp2
      apply wp_region_copy 4 rfl [⟨2, w.heap.size + 1, #[.string ⟨#[]⟩, .int .i64 0, .int .i64 0], #[.string ⟨s.toArray⟩, .int .i64 (loc1 : Int), .int .i64 (err1 : Int)], 129⟩, ⟨3, w.heap.size + 1 + 1, labA zlab, labA LL, 25⟩] [w.heap.size + 1, w.heap.size + 1 + 1] [[(1, none)], [(4, none)], [(2, none), (24, some 0)], [(3, none), (25, some 1)]] [eqv _, eqv _, anyv, anyv] (by kernel_rfl) (by kernel_rfl)
      case hmono => repeat (first | exact trivial | refine ⟨fun _ _ _ _ h => h, ?_⟩)
      case hlt => exact (List.forall_mem_cons.2 ⟨(show (2 : Nat) < 4 by decide), (List.forall_mem_cons.2 ⟨(show (3 : Nat) < 4 by decide), (fun _ h => nomatch h)⟩)⟩)
      case h0 => exact (List.forall_mem_cons.2 ⟨R4, (List.forall_mem_cons.2 ⟨L4, (fun _ h => nomatch h)⟩)⟩)
      case hobs =>
        refine ⟨?_, ?_⟩
        · rintro L a1 w1 hT hP hS ⟨h1, -⟩   -- 0: Op.load 129 t1
          have e1 : a1.tmps.getD 1 undef = _ := h1
          have f1 := getD_form e1
          clear h1
          exact copy_load 129 (.tmp 1) rfl (w.heap.size) e1 (Blk.drew D4) hT (by intro h; rcases List.mem_cons.1 h with h | h; omega; rcases List.mem_cons.1 h with h | h; omega; cases h) _ Try.underlying129 (by rfl) (size_cur _ _ _) (copy_val hP (List.forall_mem_cons.2 ⟨(show (2 : Nat) ≠ 0 by decide), (List.forall_mem_cons.2 ⟨(show (3 : Nat) ≠ 0 by decide), (fun _ h => nomatch h)⟩)⟩) rfl)
        refine ⟨?_, ?_⟩
        · rintro L a1 w1 hT hP hS ⟨h4, -⟩   -- 1: Op.load 25 t4
          have e4 : a1.tmps.getD 4 undef = _ := h4
          have f4 := getD_form e4
          clear h4
          exact copy_load 25 (.tmp 4) rfl (w.heap.size + 1 + 1 + 1) e4 (Blk.drew Q) hT (by intro h; rcases List.mem_cons.1 h with h | h; omega; rcases List.mem_cons.1 h with h | h; omega; cases h) _ Try.underlying25 (by rfl) hzL (copy_val hP (List.forall_mem_cons.2 ⟨(show (2 : Nat) ≠ 1 by decide), (List.forall_mem_cons.2 ⟨(show (3 : Nat) ≠ 1 by decide), (fun _ h => nomatch h)⟩)⟩) rfl)
        refine ⟨?_, ?_⟩
        · rintro L a1 w1 hT hP hS ⟨h2, h24, -⟩   -- 2: Op.store 129 t2 t24
          have e2 : a1.tmps.getD 2 undef = _ := h2
          have f2 := getD_form e2
          have e24 : a1.tmps.getD 24 undef = _ := h24
          have f24 := getD_form e24
          clear h2 h24
          exact copy_store hP ⟨2, w.heap.size + 1, #[.string ⟨#[]⟩, .int .i64 0, .int .i64 0], #[.string ⟨s.toArray⟩, .int .i64 (loc1 : Int), .int .i64 (err1 : Int)], 129⟩ (List.mem_cons_self ..) rfl (by decide) hS.self (List.mem_cons_self ..) (List.forall_mem_cons.2 ⟨(fun h => absurd rfl h), (List.forall_mem_cons.2 ⟨(fun _ => (show w.heap.size + 1 + 1 ≠ w.heap.size + 1 by omega)), (fun _ h => nomatch h)⟩)⟩) (List.forall_mem_cons.2 ⟨(fun _ => rfl), (List.forall_mem_cons.2 ⟨(fun h => absurd h (show (3 : Nat) ≠ 2 by decide)), (fun _ h => nomatch h)⟩)⟩) 129 (.tmp 2) (.tmp 24) rfl e2 e24 rfl (size_cur _ _ _) (one_cur _ _ _)
        refine ⟨?_, ?_⟩
        · rintro L a1 w1 hT hP hS ⟨h3, h25, -⟩   -- 3: Op.store 25 t3 t25
          have e3 : a1.tmps.getD 3 undef = _ := h3
          have f3 := getD_form e3
          have e25 : a1.tmps.getD 25 undef = _ := h25
          have f25 := getD_form e25
          clear h3 h25
          exact copy_store hP ⟨3, w.heap.size + 1 + 1, labA zlab, labA LL, 25⟩ (List.mem_cons_of_mem _ (List.mem_cons_self ..)) rfl (by decide) hS.self (List.mem_cons_of_mem _ (List.mem_cons_self ..)) (List.forall_mem_cons.2 ⟨(fun _ => (show w.heap.size + 1 ≠ w.heap.size + 1 + 1 by omega)), (List.forall_mem_cons.2 ⟨(fun h => absurd rfl h), (fun _ h => nomatch h)⟩)⟩) (List.forall_mem_cons.2 ⟨(fun h => absurd h (show (2 : Nat) ≠ 3 by decide)), (List.forall_mem_cons.2 ⟨(fun _ => rfl), (fun _ h => nomatch h)⟩)⟩) 25 (.tmp 3) (.tmp 25) rfl e3 e25 heq hzL (labA_all LL)
        trivial
      case hend =>
        intro w2 hK hst
        have b2 := hst _ (List.mem_cons_self ..)
        have b3 := hst _ (List.mem_cons_of_mem _ (List.mem_cons_self ..))
        rintro _ rfl _ rfl
        simp only [relEnd, Act.put, List.setIfInBounds_toArray, List.set_cons_succ, List.set_cons_zero]
        have hB6 := hK.below hB5 (by intro g hg; rcases List.mem_cons.1 hg with h | h; omega; rcases List.mem_cons.1 h with h | h; omega; cases h)
        go_wp2
        exact bodyPost_ret (v := .tuple #[.agg #[.string ⟨s.toArray⟩, .int .i64 (loc1 : Int), .int .i64 (err1 : Int)], .agg (labA LL)]) (results_two (by rfl) _ b2 b3 _ _ (by rfl) (by rfl) Try.underlying129 (by rfl) (size_cur _ _ _) Try.underlying25 (by rfl) hzL) rfl ⟨by rw [HLL.out], hB6⟩
end Go.Proofs.Ytgjmnhbkdccgpaa

/- From RdD. -/
namespace Go.Proofs.Ytgjmnhbkdccgpaa
open Go.RowKit

namespace D
theorem num_take_le (t : List UInt8) (k : Nat) : num (t.take k) ≤ num t := by
  by_cases hk : k < t.length
  · have h := num_take_le t (k + 1)
    rw [num_take_snoc t k hk] at h
    omega
  · rw [List.take_of_length_le (by omega)]; exact Nat.le_refl _
termination_by t.length - k
end D
set_option maxRecDepth 100000 in
set_option maxHeartbeats 4000000 in
theorem rnumber2_any (s : List UInt8) (hs : s.length ≤ 1000000) (r : D.Rd) (hr : r.loc ≤ s.length) (w : World) :
    Calls Try.prog 119 #[curV s r] w fun e w' => e = .returned (.tuple #[curV s (D.number s r).2, .int .i64 ((D.number s r).1 : Int)]) ∧ Below w.heap.size w w' := by
  have TK := Lib.hid (fun W => rtake_any s hs r hr 1 (by omega) (z := 1) rfl W)
  have FL := Lib.hid (fun W => rfail2_any s (D.take s r 1).2 4 (z := 4) rfl W)
  have hc := D.take_cases s r 1
  have hloc := D.take_loc s r 1 hr
  have nl := D.number_nil (s := s) (r := r)
  have nb := fun c l h h8 => D.number_big (s := s) (r := r) (c := c) (l := l) h h8
  have nbad := fun c l h h8 hb => D.number_bad (s := s) (r := r) (c := c) (l := l) h h8 hb
  have nok := fun c l h h8 hb => D.number_ok (s := s) (r := r) (c := c) (l := l) h h8 hb
  have nlt := D.number_lt s r
  generalize D.number s r = NN at *
  generalize D.take s r 1 = T at *
  obtain ⟨t, ⟨loc1, err1⟩⟩ := T
  obtain ⟨loc, err⟩ := r
  unfold curV at TK FL ⊢
  dsimp only at TK FL hc hloc nl nb nbad nok ⊢
  obtain ⟨D0, R0, hB0⟩ := two_new w #[.string ⟨s.toArray⟩, .int .i64 (loc : Int), .int .i64 (err : Int)] #[.string ⟨#[]⟩, .int .i64 0, .int .i64 0] 129 129
  rcases hc with ⟨he, rfl⟩ | ⟨he, hl⟩
  · have e1 : ((err1 : Int) != 0) = true := by rw [bne_iff_ne]; omega
    rw [nl rfl]
    clear nl nb nbad nok FL he nlt
    go_enter Try.func119, Try.ntmps119
    go_wp2_with (first | (go_at_call 117; go_loud ((with_reducible refine (TK.out _).mono ?_); rintro e w1 ⟨rfl, hb1⟩; have D1 := D0.at_ hb1; have R1 := R0.at_ hb1; have hB1 := hB0.trans (hb1.mono hB0.size); obtain ⟨x00, x01, x02, y00, y01, y02⟩ := free3 D1; obtain ⟨x10, x11, x12, y10, y11, y12⟩ := free3 R1)))
    obtain ⟨W6, hW6, b6, hB6⟩ := cur6 D1 R1 (by omega) (.string ⟨s.toArray⟩) (.int .i64 (loc1 : Int)) (.int .i64 (err1 : Int)) (.string ⟨s.toArray⟩) (.int .i64 (loc1 : Int)) (.int .i64 (err1 : Int))
    rw [← hW6]
    exact bodyPost_ret (v := .tuple #[.agg #[.string ⟨s.toArray⟩, .int .i64 (loc1 : Int), .int .i64 (err1 : Int)], .int .i64 0]) (results_blk2 (by rfl) _ b6 _ _ (by rfl) (by rfl) Try.underlying129 (by rfl) (size_cur _ _ _)) rfl ⟨rfl, hB6 _ _ (Nat.le_refl _) (by omega) hB1⟩
  · subst he
    obtain ⟨c, rfl⟩ : ∃ c, t = [c] := by
      match t, hl with
      | [c], _ => exact ⟨c, rfl⟩
    have hix := fun W => str_index_ [c] 0 0 rfl (by simp) W
    simp only [List.getD_cons_zero] at hix
    by_cases h8 : 8 < c.toNat
    · have d1 : decide ((8 : Int) < (c.toNat : Int)) = true := decide_eq_true (by omega)
      rw [nb c [] rfl h8]
      have hfl : D.fail ⟨loc1, 0⟩ 4 = ⟨loc1, 4⟩ := by unfold D.fail; rw [if_pos rfl]
      rw [hfl] at FL ⊢
      dsimp only at FL ⊢
      rw [show ((0 : Nat) : Int) = 0 from rfl] at TK FL ⊢
      rw [show ((4 : Nat) : Int) = 4 from rfl] at FL ⊢
      clear nl nb nbad nok hl hfl nlt
      go_enter Try.func119, Try.ntmps119
      go_wp2_with (first | (go_at_call 117; go_loud ((with_reducible refine (TK.out _).mono ?_); rintro e w1 ⟨rfl, hb1⟩; have D1 := D0.at_ hb1; have R1 := R0.at_ hb1; have hB1 := hB0.trans (hb1.mono hB0.size); obtain ⟨x00, x01, x02, y00, y01, y02⟩ := free3 D1; obtain ⟨x10, x11, x12, y10, y11, y12⟩ := free3 R1)) | (go_at_call 118; go_loud (obtain ⟨W3, hW3, D3, hB3, hR3⟩ := cur3 D1 (.string ⟨s.toArray⟩) (.int .i64 (loc1 : Int)) (.int .i64 0); rw [← hW3]; have R3 := hR3 _ _ _ R1 (by omega); have hB4 := hB3 _ _ (Nat.le_refl _) hB1; (with_reducible refine (FL.out _).mono ?_); rintro e w2 ⟨rfl, hb2⟩; have R2 := R3.at_ hb2; have hB2 := hB4.trans (hb2.mono hB4.size); obtain ⟨z10, z11, z12, u10, u11, u12⟩ := free3 R2)))
      obtain ⟨b6, o6⟩ := blk3 R2 (.string ⟨s.toArray⟩) (.int .i64 (loc1 : Int)) (.int .i64 4)
      exact bodyPost_ret (v := .tuple #[.agg #[.string ⟨s.toArray⟩, .int .i64 (loc1 : Int), .int .i64 4], .int .i64 0]) (results_blk2 (by rfl) _ b6 _ _ (by rfl) (by rfl) Try.underlying129 (by rfl) (size_cur _ _ _)) rfl ⟨rfl, o6.below hB2 (by omega)⟩
    · have d1 : decide ((8 : Int) < (c.toNat : Int)) = false := decide_eq_false (by omega)
      replace nbad := nbad c [] rfl h8
      replace nok := nok c [] rfl h8
      have TL := Lib.hid (fun W => rtake_any s hs ⟨loc1, 0⟩ hloc c.toNat (by omega) (z := IntKind.i64.wrap (c.toNat : Int)) (by rw [IntWalk.i64_in _ (by omega)]) W)
      have hc2 := D.take_cases s ⟨loc1, 0⟩ c.toNat
      generalize D.take s ⟨loc1, 0⟩ c.toNat = T2 at *
      obtain ⟨t2, ⟨loc2, err2⟩⟩ := T2
      unfold curV at TL
      dsimp only at TL hc2 nbad nok
      rw [show ((0 : Nat) : Int) = 0 from rfl] at TK TL
      clear nl nb hl FL
      go_enter Try.func119, Try.ntmps119
      go_wp2_with (first | (go_at_call 117; go_loud ((with_reducible refine (TK.out _).mono ?_); rintro e w1 ⟨rfl, hb1⟩; have D1 := D0.at_ hb1; have R1 := R0.at_ hb1; have hB1 := hB0.trans (hb1.mono hB0.size); obtain ⟨x00, x01, x02, y00, y01, y02⟩ := free3 D1; obtain ⟨x10, x11, x12, y10, y11, y12⟩ := free3 R1)))
      obtain ⟨W3, hW3, D3, hB3, hR3⟩ := cur3 D1 (.string ⟨s.toArray⟩) (.int .i64 (loc1 : Int)) (.int .i64 0)
      rw [← hW3]
      have R3 := hR3 _ _ _ R1 (by omega)
      have hB4 := hB3 _ _ (Nat.le_refl _) hB1
      clear x00 x01 x02 y00 y01 y02 x10 x11 x12 y10 y11 y12 hW3 hB3 hR3 D1 R1 hb1
      apply wp_region_copyB 10 rfl [⟨8, w.heap.size, #[.string ⟨s.toArray⟩, .int .i64 (loc1 : Int), .int .i64 0], #[.string ⟨s.toArray⟩, .int .i64 (loc2 : Int), .int .i64 (err2 : Int)], 129⟩] [w.heap.size] [[(1, none)], [(4, none)], [(24, some 1)], [(25, some 2)], [(23, some 0), (26, some 3)], [(27, some 4)], [(22, some 5)], [(22, some 5)], [(1, none), (28, some 6)], [(29, some 7)]] [eqv _, eqv _, eqv _, eqv _, eqv _, eqv _, eqv _, eqv _, anyv, eqv _] (by kernel_rfl) (by kernel_rfl)
      case hmono => repeat (first | exact trivial | refine ⟨fun _ _ _ _ h => h, ?_⟩)
      case hlt => exact (List.forall_mem_cons.2 ⟨(show (8 : Nat) < 10 by decide), (fun _ h => nomatch h)⟩)
      case h0 => exact (List.forall_mem_cons.2 ⟨D3, (fun _ h => nomatch h)⟩)
      case hobs =>
        refine ⟨?_, ?_⟩
        · rintro L a1 w1 hT hP hS ⟨h1, -⟩   -- 0: Op.load 129 t1
          have e1 : a1.tmps.getD 1 undef = _ := h1
          have f1 := getD_form e1
          clear h1
          have hold := cph_old hP _ (List.mem_cons_self ..) (hS.post 8 (Bef.one (i := 8) (e := ⟨0, .phase⟩) rfl (by simp) rfl))
          obtain ⟨x00, x01, x02, -, -, -⟩ := free3 hold
          go_simp; exact copyB_val hP (List.forall_mem_cons.2 ⟨(show (8 : Nat) ≠ 0 by decide), (fun _ h => nomatch h)⟩) rfl
        refine ⟨?_, ?_⟩
        · rintro L a1 w1 hT hP hS ⟨h4, -⟩   -- 1: Op.move t4
          have e4 : a1.tmps.getD 4 undef = _ := h4
          have f4 := getD_form e4
          clear h4
          go_simp; exact copyB_val hP (List.forall_mem_cons.2 ⟨(show (8 : Nat) ≠ 1 by decide), (fun _ h => nomatch h)⟩) rfl
        refine ⟨?_, ?_⟩
        · rintro L a1 w1 hT hP hS ⟨h24, -⟩   -- 2: Op.index 9 t24 (const (0:i64))
          have e24 : a1.tmps.getD 24 undef = _ := h24
          have f24 := getD_form e24
          clear h24
          have hx2 := hix w1
          go_simp; exact copyB_val hP (List.forall_mem_cons.2 ⟨(show (8 : Nat) ≠ 2 by decide), (fun _ h => nomatch h)⟩) rfl
        refine ⟨?_, ?_⟩
        · rintro L a1 w1 hT hP hS ⟨h25, -⟩   -- 3: Op.convert 5 3 t25
          have e25 : a1.tmps.getD 25 undef = _ := h25
          have f25 := getD_form e25
          clear h25
          go_simp; exact copyB_val hP (List.forall_mem_cons.2 ⟨(show (8 : Nat) ≠ 3 by decide), (fun _ h => nomatch h)⟩) rfl
        refine ⟨?_, ?_⟩
        · rintro L a1 w1 hT hP hS ⟨h23, h26, -⟩   -- 4: Op.call { value (Operand.func 117), args := #[t23, t26], argTypes := #[129, 3] }
          have e23 : a1.tmps.getD 23 undef = _ := h23
          have f23 := getD_form e23
          have e26 : a1.tmps.getD 26 undef = _ := h26
          have f26 := getD_form e26
          clear h23 h26
          go_simp; go_at_call 117; (with_reducible refine (TL.out _).mono ?_); rintro e w3 ⟨rfl, hb⟩; exact copyB_call hP (List.forall_mem_cons.2 ⟨(show (8 : Nat) ≠ 4 by decide), (fun _ h => nomatch h)⟩) hb rfl
        refine ⟨?_, ?_⟩
        · rintro L a1 w1 hT hP hS ⟨h27, -⟩   -- 5: Op.move t27
          have e27 : a1.tmps.getD 27 undef = _ := h27
          have f27 := getD_form e27
          clear h27
          go_simp; exact copyB_val hP (List.forall_mem_cons.2 ⟨(show (8 : Nat) ≠ 5 by decide), (fun _ h => nomatch h)⟩) rfl
        refine ⟨?_, ?_⟩
        · rintro L a1 w1 hT hP hS ⟨h22, -⟩   -- 6: Op.extract t22 0
          have e22 : a1.tmps.getD 22 undef = _ := h22
          have f22 := getD_form e22
          clear h22
          go_simp; exact copyB_val hP (List.forall_mem_cons.2 ⟨(show (8 : Nat) ≠ 6 by decide), (fun _ h => nomatch h)⟩) rfl
        refine ⟨?_, ?_⟩
        · rintro L a1 w1 hT hP hS ⟨h22, -⟩   -- 7: Op.extract t22 1
          have e22 : a1.tmps.getD 22 undef = _ := h22
          have f22 := getD_form e22
          clear h22
          go_simp; exact copyB_val hP (List.forall_mem_cons.2 ⟨(show (8 : Nat) ≠ 7 by decide), (fun _ h => nomatch h)⟩) rfl
        refine ⟨?_, ?_⟩
        · rintro L a1 w1 hT hP hS ⟨h1, h28, -⟩   -- 8: Op.store 129 t1 t28
          have e1 : a1.tmps.getD 1 undef = _ := h1
          have f1 := getD_form e1
          have e28 : a1.tmps.getD 28 undef = _ := h28
          have f28 := getD_form e28
          clear h1 h28
          exact copyB_store hP ⟨8, w.heap.size, #[.string ⟨s.toArray⟩, .int .i64 (loc1 : Int), .int .i64 0], #[.string ⟨s.toArray⟩, .int .i64 (loc2 : Int), .int .i64 (err2 : Int)], 129⟩ (List.mem_cons_self ..) rfl (by decide) hS.self (List.mem_cons_self ..) (List.forall_mem_cons.2 ⟨(fun h => absurd rfl h), (fun _ h => nomatch h)⟩) (List.forall_mem_cons.2 ⟨(fun _ => rfl), (fun _ h => nomatch h)⟩) 129 (.tmp 1) (.tmp 28) rfl e1 e28 rfl (size_cur _ _ _) (one_cur _ _ _)
        refine ⟨?_, ?_⟩
        · rintro L a1 w1 hT hP hS ⟨h29, -⟩   -- 9: Op.assign t29
          have e29 : a1.tmps.getD 29 undef = _ := h29
          have f29 := getD_form e29
          clear h29
          go_simp; exact copyB_val hP (List.forall_mem_cons.2 ⟨(show (8 : Nat) ≠ 9 by decide), (fun _ h => nomatch h)⟩) rfl
        trivial
      case hend =>
        intro w2 hK hst
        have b1 := hst _ (List.mem_cons_self ..)
        rintro _ rfl _ rfl _ rfl _ rfl _ rfl _ rfl _ rfl _ rfl _ rfl
        simp only [relEnd, Act.put, List.setIfInBounds_toArray, List.set_cons_succ, List.set_cons_zero]
        have R4 := R3.keepB hK (by intro h; rcases List.mem_cons.1 h with h | h; omega; cases h)
        have hB5 := hK.below hB4 (by have := D3.lt; omega) (by intro g hg; rcases List.mem_cons.1 hg with h | h; omega; cases h)
        clear hK hst D3 R3
        obtain ⟨x00, x01, x02, y00, y01, y02⟩ := free3 b1
        obtain ⟨x10, x11, x12, y10, y11, y12⟩ := free3 R4
        rcases hc2 with ⟨he2, rfl⟩ | ⟨he2, hl2⟩
        · have e1 : ((err2 : Int) != 0) = true := by rw [bne_iff_ne]; omega
          have HN := Lib.hid (show NN = (0, ⟨loc2, err2⟩) from nok rfl)
          clear nok nbad he2 nlt
          go_wp2
          obtain ⟨b6, o6⟩ := blk3 R4 (.string ⟨s.toArray⟩) (.int .i64 (loc2 : Int)) (.int .i64 err2)
          exact bodyPost_ret (v := .tuple #[.agg #[.string ⟨s.toArray⟩, .int .i64 (loc2 : Int), .int .i64 err2], .int .i64 0]) (results_blk2 (by rfl) _ b6 _ _ (by rfl) (by rfl) Try.underlying129 (by rfl) (size_cur _ _ _)) rfl ⟨by rw [HN.out]; rfl, o6.below hB5 (by omega)⟩
        · subst he2
          rw [show ((0 : Nat) : Int) = 0 from rfl] at b1 x02
          have hz2 : (⟨t2.toArray⟩ : ByteArray).size = t2.length := by simp [ByteArray.size]
          by_cases hc0 : c.toNat = 0
          · obtain rfl : t2 = [] := List.eq_nil_of_length_eq_zero (by omega)
            have HN := Lib.hid (show NN = (0, ⟨loc2, 0⟩) from nok rfl)
            clear nok nbad nlt hz2 hc0 hl2
            go_wp2
            obtain ⟨b6, o6⟩ := blk3 R4 (.string ⟨s.toArray⟩) (.int .i64 (loc2 : Int)) (.int .i64 0)
            exact bodyPost_ret (v := .tuple #[.agg #[.string ⟨s.toArray⟩, .int .i64 (loc2 : Int), .int .i64 0], .int .i64 0]) (results_blk2 (by rfl) _ b6 _ _ (by rfl) (by rfl) Try.underlying129 (by rfl) (size_cur _ _ _)) rfl ⟨by rw [HN.out]; rfl, o6.below hB5 (by omega)⟩
          · obtain ⟨d, l, rfl⟩ : ∃ d l, t2 = d :: l := by
              match t2, hl2 with
              | [], h => exact absurd h.symm hc0
              | d :: l, _ => exact ⟨d, l, rfl⟩
            have hi0 := fun W => str_index_ (d :: l) 0 0 rfl (by simp) W
            simp only [List.getD_cons_zero] at hi0
            have hbd : D.bad c.toNat (d :: l) = (d.toNat == 0 || c.toNat == 8 && decide (127 < d.toNat)) := rfl
            have FL2 := Lib.hid (fun W => rfail2_any s ⟨loc2, 0⟩ 4 (z := 4) rfl W)
            have hfl2 : D.fail ⟨loc2, 0⟩ 4 = ⟨loc2, 4⟩ := by unfold D.fail; rw [if_pos rfl]
            rw [hfl2] at FL2 nbad
            unfold curV at FL2
            dsimp only at FL2
            rw [show ((0 : Nat) : Int) = 0 from rfl, show ((4 : Nat) : Int) = 4 from rfl] at FL2
            generalize hL2 : d :: l = t3 at *
            have hne2 : ((t3.length : Int) == 0) = false := by rw [beq_eq_false_iff_ne]; omega
            have hne2' : ¬ t3.length = 0 := by omega
            by_cases h0 : d.toNat = 0
            · have e0 : ((d.toNat : Int) == 0) = true := by rw [beq_iff_eq]; omega
              have HN := Lib.hid (nbad (by rw [hbd]; simp [h0]))
              clear nok nbad nlt hbd hL2 hl2 hc0 h0 hne2' hfl2
              go_wp2_with (first | (go_at_call 118; go_loud ((with_reducible refine (FL2.out _).mono ?_); rintro e w4 ⟨rfl, hb4⟩; have R6 := R4.at_ hb4; have hB6 := hB5.trans (hb4.mono hB5.size); obtain ⟨z10, z11, z12, u10, u11, u12⟩ := free3 R6)))
              obtain ⟨b6, o6⟩ := blk3 R6 (.string ⟨s.toArray⟩) (.int .i64 (loc2 : Int)) (.int .i64 4)
              exact bodyPost_ret (v := .tuple #[.agg #[.string ⟨s.toArray⟩, .int .i64 (loc2 : Int), .int .i64 4], .int .i64 0]) (results_blk2 (by rfl) _ b6 _ _ (by rfl) (by rfl) Try.underlying129 (by rfl) (size_cur _ _ _)) rfl ⟨by rw [HN.out]; rfl, o6.below hB6 (by omega)⟩
            · have e0 : ((d.toNat : Int) == 0) = false := by rw [beq_eq_false_iff_ne]; omega
              by_cases h8' : t3.length = 8
              · have e8 : ((t3.length : Int) == 8) = true := by rw [beq_iff_eq]; omega
                by_cases h127 : 127 < d.toNat
                · have d127 : decide ((127 : Int) < (d.toNat : Int)) = true := decide_eq_true (by omega)
                  have HN := Lib.hid (nbad (by rw [hbd, ← hl2, h8']; simp [h127]))
                  clear nok nbad nlt hbd hL2 hc0 h0 hne2' hfl2
                  have HL8 := Lib.hid h8'
                  clear h8' hl2
                  go_wp2_with (first | (go_at_call 118; go_loud ((with_reducible refine (FL2.out _).mono ?_); rintro e w4 ⟨rfl, hb4⟩; have R6 := R4.at_ hb4; have hB6 := hB5.trans (hb4.mono hB5.size); obtain ⟨z10, z11, z12, u10, u11, u12⟩ := free3 R6)))
                  obtain ⟨b6, o6⟩ := blk3 R6 (.string ⟨s.toArray⟩) (.int .i64 (loc2 : Int)) (.int .i64 4)
                  exact bodyPost_ret (v := .tuple #[.agg #[.string ⟨s.toArray⟩, .int .i64 (loc2 : Int), .int .i64 4], .int .i64 0]) (results_blk2 (by rfl) _ b6 _ _ (by rfl) (by rfl) Try.underlying129 (by rfl) (size_cur _ _ _)) rfl ⟨by rw [HN.out]; rfl, o6.below hB6 (by omega)⟩
                · have d127 : decide ((127 : Int) < (d.toNat : Int)) = false := decide_eq_false (by omega)
                  have HN0 := nok (by rw [hbd]; simp [h0, h127])
                  rw [HN0] at nlt
                  have HN := Lib.hid HN0
                  clear nok nbad hbd hL2 hc0 h0 hne2' hfl2 HN0 FL2 h8'
                  have hl8 : t3.length ≤ 8 := by omega
                  clear hl2
                  go_wp2
                  go_loopw [6, 7] (fun u i wr => ∃ k : Nat, k ≤ t3.length ∧ i = .int .i64 (k : Int) ∧ u = .int .i64 (D.num (t3.take k) : Int) ∧ wr = w2) (fun _ i _ => t3.length - (intOf i).toNat)
                  case atStart => exact ⟨0, Nat.zero_le _, rfl, rfl, rfl⟩
                  case round =>
                    obtain ⟨k, hk, rfl, rfl, rfl⟩ := hrel
                    have q0 : (0 : Int) ≤ (k : Int) := by omega
                    by_cases hm : k < t3.length
                    · have d5 : decide ((k : Int) < (t3.length : Int)) = true := decide_eq_true (by omega)
                      have d5' : decide (k < t3.length) = true := decide_eq_true hm
                      have hw1 : IntKind.i64.wrap ((k : Int) + 1) = ((k + 1 : Nat) : Int) := by rw [IntWalk.i64_in _ (by omega)]; omega
                      have hik := fun W => str_index_ t3 k (k : Int) rfl hm W
                      have hs1 := D.num_take_snoc t3 k hm
                      have hs2 := D.num_take_le t3 (k + 1)
                      have hs3 : D.num t3 < 9223372036854775808 := nlt
                      have hbl := (t3.getD k 0).toNat_lt
                      have hw2 : IntKind.i64.wrap (256 * (D.num (t3.take k) : Int)) = 256 * (D.num (t3.take k) : Int) := by rw [IntWalk.i64_in _ (by omega)]
                      have hw3 : IntKind.i64.wrap (256 * (D.num (t3.take k) : Int) + ((t3.getD k 0).toNat : Int)) = ((D.num (t3.take (k + 1)) : Nat) : Int) := by rw [IntWalk.i64_in _ (by omega)]; omega
                      have HM := Lib.hid hm
                      clear hs1 hs2 hs3 nlt hm
                      generalize (t3.getD k 0).toNat = bb at *
                      generalize D.num (t3.take k) = U at *
                      generalize hU' : D.num (t3.take (k + 1)) = U' at *
                      have HU := Lib.hid hU'
                      clear hU'
                      go_wp2
                      go_roundw
                      case rel => exact ⟨k + 1, HM.out, by rfl, by rw [HU.out], by first | rfl | exact trivial⟩
                      case measure => have := HM.out; simp [intOf]; omega
                    · have d5 : decide ((k : Int) < (t3.length : Int)) = false := decide_eq_false (by omega)
                      have d5' : decide (k < t3.length) = false := decide_eq_false hm
                      rw [List.take_of_length_le (by omega)]
                      clear hm
                      go_wp2
                      obtain ⟨b6, o6⟩ := blk3 R4 (.string ⟨s.toArray⟩) (.int .i64 (loc2 : Int)) (.int .i64 0)
                      exact bodyPost_ret (v := .tuple #[.agg #[.string ⟨s.toArray⟩, .int .i64 (loc2 : Int), .int .i64 0], .int .i64 (D.num t3 : Int)]) (results_blk2 (by rfl) _ b6 _ _ (by rfl) (by rfl) Try.underlying129 (by rfl) (size_cur _ _ _)) rfl ⟨by rw [HN.out]; rfl, o6.below hB5 (by omega)⟩
              · have e8 : ((t3.length : Int) == 8) = false := by rw [beq_eq_false_iff_ne]; omega
                have HN0 := nok (by rw [hbd, ← hl2]; simp [h0, h8'])
                rw [HN0] at nlt
                have HN := Lib.hid HN0
                have hl8 : t3.length ≤ 8 := by omega
                clear nok nbad hbd hL2 hc0 h0 hne2' hfl2 HN0 FL2 h8' hl2
                go_wp2
                go_loopw [6, 7] (fun u i wr => ∃ k : Nat, k ≤ t3.length ∧ i = .int .i64 (k : Int) ∧ u = .int .i64 (D.num (t3.take k) : Int) ∧ wr = w2) (fun _ i _ => t3.length - (intOf i).toNat)
                case atStart => exact ⟨0, Nat.zero_le _, rfl, rfl, rfl⟩
                case round =>
                  obtain ⟨k, hk, rfl, rfl, rfl⟩ := hrel
                  have q0 : (0 : Int) ≤ (k : Int) := by omega
                  by_cases hm : k < t3.length
                  · have d5 : decide ((k : Int) < (t3.length : Int)) = true := decide_eq_true (by omega)
                    have d5' : decide (k < t3.length) = true := decide_eq_true hm
                    have hw1 : IntKind.i64.wrap ((k : Int) + 1) = ((k + 1 : Nat) : Int) := by rw [IntWalk.i64_in _ (by omega)]; omega
                    have hik := fun W => str_index_ t3 k (k : Int) rfl hm W
                    have hs1 := D.num_take_snoc t3 k hm
                    have hs2 := D.num_take_le t3 (k + 1)
                    have hs3 : D.num t3 < 9223372036854775808 := nlt
                    have hbl := (t3.getD k 0).toNat_lt
                    have hw2 : IntKind.i64.wrap (256 * (D.num (t3.take k) : Int)) = 256 * (D.num (t3.take k) : Int) := by rw [IntWalk.i64_in _ (by omega)]
                    have hw3 : IntKind.i64.wrap (256 * (D.num (t3.take k) : Int) + ((t3.getD k 0).toNat : Int)) = ((D.num (t3.take (k + 1)) : Nat) : Int) := by rw [IntWalk.i64_in _ (by omega)]; omega
                    have HM := Lib.hid hm
                    clear hs1 hs2 hs3 nlt hm
                    generalize (t3.getD k 0).toNat = bb at *
                    generalize D.num (t3.take k) = U at *
                    generalize hU' : D.num (t3.take (k + 1)) = U' at *
                    have HU := Lib.hid hU'
                    clear hU'
                    go_wp2
                    go_roundw
                    case rel => exact ⟨k + 1, HM.out, by rfl, by rw [HU.out], by first | rfl | exact trivial⟩
                    case measure => have := HM.out; simp [intOf]; omega
                  · have d5 : decide ((k : Int) < (t3.length : Int)) = false := decide_eq_false (by omega)
                    have d5' : decide (k < t3.length) = false := decide_eq_false hm
                    rw [List.take_of_length_le (by omega)]
                    clear hm
                    go_wp2
                    obtain ⟨b6, o6⟩ := blk3 R4 (.string ⟨s.toArray⟩) (.int .i64 (loc2 : Int)) (.int .i64 0)
                    exact bodyPost_ret (v := .tuple #[.agg #[.string ⟨s.toArray⟩, .int .i64 (loc2 : Int), .int .i64 0], .int .i64 (D.num t3 : Int)]) (results_blk2 (by rfl) _ b6 _ _ (by rfl) (by rfl) Try.underlying129 (by rfl) (size_cur _ _ _)) rfl ⟨by rw [HN.out]; rfl, o6.below hB5 (by omega)⟩
end Go.Proofs.Ytgjmnhbkdccgpaa

/- From RdE. -/
namespace Go.Proofs.Ytgjmnhbkdccgpaa
open Go.RowKit

theorem fresh_rleaf (w : World) : (Instr.alloc 77 true (.tuple #[])).run Try.prog w = .ok (.pointer (some ⟨w.heap.size, 0, none⟩)) (w.alloc (.cells (leafC zlab zlab 0).toArray 77)) := by kernel_rfl
theorem info_rleaf : (Try.prog.info? 77).map (·.size) = some 65 := by kernel_rfl
theorem build_rleaf (l v : List UInt8) (t : Int) (hl : l.length = 32) (hv : v.length = 32) (w : World) : (Instr.build 77 #[(0, .agg (labA l)), (1, .agg (labA v)), (2, .int .i64 t)]).run Try.prog w = .ok (.agg (leafC l v t).toArray) w := by
  obtain ⟨a0, a1, a2, a3, a4, a5, a6, a7, a8, a9, a10, a11, a12, a13, a14, a15, a16, a17, a18, a19, a20, a21, a22, a23, a24, a25, a26, a27, a28, a29, a30, a31, rfl⟩ := lab32 l hl
  obtain ⟨b0, b1, b2, b3, b4, b5, b6, b7, b8, b9, b10, b11, b12, b13, b14, b15, b16, b17, b18, b19, b20, b21, b22, b23, b24, b25, b26, b27, b28, b29, b30, b31, rfl⟩ := lab32 v hv
  kernel_rfl
theorem leafC_one2 (l v : List UInt8) (t : Int) : (leafC l v t).toArray.all (·.oneCell') = true := by
  rw [Array.all_eq_true']
  intro x hx
  rw [List.mem_toArray] at hx
  unfold leafC at hx
  simp only [List.mem_append, List.mem_map, List.mem_singleton] at hx
  rcases hx with (⟨b, _, rfl⟩ | ⟨b, _, rfl⟩) | rfl <;> rfl
/-- Three new blocks. -/
theorem three_new (w : World) (a b c : Array Value) (s t u : TypeId) : Blk (((w.alloc (.cells a s)).alloc (.cells b t)).alloc (.cells c u)) w.heap.size a s ∧ Blk (((w.alloc (.cells a s)).alloc (.cells b t)).alloc (.cells c u)) (w.heap.size + 1) b t ∧ Blk (((w.alloc (.cells a s)).alloc (.cells b t)).alloc (.cells c u)) (w.heap.size + 1 + 1) c u ∧ Below w.heap.size w (((w.alloc (.cells a s)).alloc (.cells b t)).alloc (.cells c u)) := by
  obtain ⟨h0, h1, h2⟩ := two_new w a b s t
  have h := Blk.new ((w.alloc (.cells a s)).alloc (.cells b t)) c u
  rw [World.size_alloc, World.size_alloc] at h
  exact ⟨h0.alloc _, h1.alloc _, h, h2.alloc (by rw [World.size_alloc, World.size_alloc]; omega) _⟩
/-- A new cursor and a new label; the label is stored. -/
theorem cur_lab {W V : World} {c : Array Value} (o : Only (W.heap.size + 1) ((W.alloc (.cells c 129)).alloc (.cells (labA zlab) 25)) V) : Blk V W.heap.size c 129 ∧ Below W.heap.size W V := by
  obtain ⟨h0, h1, h2⟩ := two_new W c (labA zlab) 129 25
  exact ⟨h0.only o (by omega), o.below h2 (by omega)⟩
theorem lab_sz (l : List UInt8) (hl : l.length = 32) : (Try.prog.info? 25).map (·.size) = some (labA l).size := by rw [labA_size, hl]; kernel_rfl
theorem lab_fit (l : List UInt8) (hl : l.length = 32) : 0 + (labA l).size ≤ (labA zlab).size := by rw [labA_size, labA_size, hl, zlab_length]; decide
theorem lab_spl (l : List UInt8) (hl : l.length = 32) : splice (labA zlab) 0 (labA l) = labA l := splice_all _ _ (by rw [labA_size, labA_size, hl]; decide)
set_option maxRecDepth 100000 in
set_option maxHeartbeats 2000000 in
theorem rleafD_any (s : List UInt8) (hs : s.length ≤ 1000000) (r : D.Rd) (hr : r.loc ≤ s.length) (w : World) :
    Calls Try.prog 94 #[curV s r] w fun e w' => e = .returned (.tuple #[curV s (D.rleaf s r).2, .agg (leafC (D.rleaf s r).1.1 (D.rleaf s r).1.2.1 ((D.rleaf s r).1.2.2 : Int)).toArray]) ∧ Below w.heap.size w w' := by
  have hF : D.rleaf s r = (((D.label s r).1, (D.label s (D.label s r).2).1, (D.number s (D.label s (D.label s r).2).2).1), (D.number s (D.label s (D.label s r).2).2).2) := rfl
  rw [hF]
  clear hF
  have l1 := D.label_len s r
  have hr1 : (D.label s r).2.loc ≤ s.length := D.take_loc s r 32 hr
  have L1 := Lib.hid (fun W => rlabel2_any s hs r hr W)
  generalize D.label s r = T1 at *
  obtain ⟨p1, r1⟩ := T1
  dsimp only at *
  have l2 := D.label_len s r1
  have hr2 : (D.label s r1).2.loc ≤ s.length := D.take_loc s r1 32 hr1
  have L2 := Lib.hid (fun W => rlabel2_any s hs r1 hr1 W)
  generalize D.label s r1 = T2 at *
  obtain ⟨p2, r2⟩ := T2
  dsimp only at *
  have L3 := Lib.hid (fun W => rnumber2_any s hs r2 hr2 W)
  generalize D.number s r2 = T3 at *
  obtain ⟨n, ⟨loc3, err3⟩⟩ := T3
  obtain ⟨loc, err⟩ := r
  obtain ⟨loc1, err1⟩ := r1
  obtain ⟨loc2, err2⟩ := r2
  clear hr1 hr2
  unfold curV at L1 L2 L3 ⊢
  dsimp only at L1 L2 L3 l1 l2 ⊢
  obtain ⟨D0, R0, I0, hB0⟩ := three_new w #[.string ⟨s.toArray⟩, .int .i64 (loc : Int), .int .i64 (err : Int)] #[.string ⟨#[]⟩, .int .i64 0, .int .i64 0] (leafC zlab zlab 0).toArray 129 129 77
  have f1 := lab_fit p1 l1
  have f2 := lab_fit p2 l2
  have z1 := lab_sz p1 l1
  have z2 := lab_sz p2 l2
  have s1 := lab_spl p1 l1
  have s2 := lab_spl p2 l2
  have o1 := labA_all p1
  have o2 := labA_all p2
  have hbd := build_rleaf p1 p2 (n : Int) l1 l2
  have hz : (Try.prog.info? 77).map (·.size) = some (leafC p1 p2 (n : Int)).toArray.size := by rw [List.size_toArray, leafC_length p1 p2 _ l1 l2]; exact info_rleaf
  have heq : (leafC p1 p2 (n : Int)).toArray.size = (leafC zlab zlab 0).toArray.size := by rw [List.size_toArray, List.size_toArray, leafC_length p1 p2 _ l1 l2]; rfl
  have hone := leafC_one2 p1 p2 (n : Int)
  clear l1 l2
  obtain ⟨x00, x01, x02, y00, y01, y02⟩ := free3 D0
  go_enter Try.func94, Try.ntmps94
  go_wp2_with (first | (refine wpList_fresh (by rfl) 77 (by rfl) _ fresh_rleaf ?_; simp only [Act.put, List.setIfInBounds_toArray, List.set_cons_succ, List.set_cons_zero]; try simp only [World.size_alloc]) | (refine wpList_fresh (by rfl) 25 (by rfl) _ fresh_lab1 ?_; simp only [Act.put, List.setIfInBounds_toArray, List.set_cons_succ, List.set_cons_zero]; try simp only [World.size_alloc]) | (go_at_call 120; (with_reducible refine (L1.out _).mono ?_); go_loud (rintro e u1 ⟨rfl, hu1⟩)) | (go_at_call 120; (with_reducible refine (L2.out _).mono ?_); go_loud (rintro e w3 ⟨rfl, hw3⟩)) | ((refine wpList_store_blk (by rfl) 25 (.tmp 5) (.tmp 14) (by rfl) (0) (labA p1) (by rfl) (by rfl) ((two_new u1 _ _ _ _).2.1) (f1) z1 (o1) ?_; simp only [Act.put]); go_loud (intro u2 q1 o; rw [s1] at q1; obtain ⟨C1, N1⟩ := cur_lab o; have D1 := (D0.at_ hu1).at_ N1; have R1 := (R0.at_ hu1).at_ N1; have I1 := (I0.at_ hu1).at_ N1; have hB1 := (hB0.trans (hu1.mono hB0.size)).trans (N1.mono (by have := hB0.size; have := hu1.size; omega)); have g1 : w.heap.size + 3 ≤ u1.heap.size := (by have := hu1.size; simp only [World.size_alloc] at this; omega); clear o; obtain ⟨x10, x11, x12, y10, y11, y12⟩ := free3 C1)) | ((refine wpList_store_blk (by rfl) 25 (.tmp 7) (.tmp 19) (by rfl) (0) (labA p2) (by rfl) (by rfl) ((two_new w3 _ _ _ _).2.1) (f2) z2 (o2) ?_; simp only [Act.put]); go_loud (intro w4 q2 o; rw [s2] at q2; obtain ⟨C2, N2⟩ := cur_lab o; have R2 := (R1.at_ hw3).at_ N2; have I2 := (I1.at_ hw3).at_ N2; have Q1 := (q1.at_ hw3).at_ N2; have hB2 := (hB1.trans (hw3.mono hB1.size)).trans (N2.mono (by have := hB1.size; have := hw3.size; omega)); have g2 : u1.heap.size + 2 ≤ w3.heap.size := (by have := hw3.size; have := q1.lt; omega); clear o; obtain ⟨x20, x21, x22, y20, y21, y22⟩ := free3 C2)) | (go_at_call 119; (with_reducible refine (L3.out _).mono ?_); go_loud (rintro e w5 ⟨rfl, hw5⟩)))
  have g3 : w3.heap.size + 2 ≤ w5.heap.size := (by have := hw5.size; have := q2.lt; omega)
  have C3 := Blk.new w5 #[.string ⟨s.toArray⟩, .int .i64 (loc3 : Int), .int .i64 (err3 : Int)] 129
  have R3 := (R2.at_ hw5).alloc (.cells #[.string ⟨s.toArray⟩, .int .i64 (loc3 : Int), .int .i64 (err3 : Int)] 129)
  have I3 := (I2.at_ hw5).alloc (.cells #[.string ⟨s.toArray⟩, .int .i64 (loc3 : Int), .int .i64 (err3 : Int)] 129)
  have P1 := (Q1.at_ hw5).alloc (.cells #[.string ⟨s.toArray⟩, .int .i64 (loc3 : Int), .int .i64 (err3 : Int)] 129)
  have P2 := (q2.at_ hw5).alloc (.cells #[.string ⟨s.toArray⟩, .int .i64 (loc3 : Int), .int .i64 (err3 : Int)] 129)
  have hB3 := (hB2.trans (hw5.mono hB2.size)).alloc (by omega) (.cells #[.string ⟨s.toArray⟩, .int .i64 (loc3 : Int), .int .i64 (err3 : Int)] 129)
  clear x00 x01 x02 y00 y01 y02 x10 x11 x12 y10 y11 y12 x20 x21 x22 y20 y21 y22 hw5 hw3 hu1 hB0 hB1 hB2 R2 I2 R1 I1 D1 D0 R0 I0 q1 q2 Q1 C1 C2 N1 N2
  generalize w5.alloc (.cells #[.string ⟨s.toArray⟩, .int .i64 (loc3 : Int), .int .i64 (err3 : Int)] 129) = W6 at *
  apply wp_region_copy 7 rfl [⟨5, w.heap.size + 1, #[.string ⟨#[]⟩, .int .i64 0, .int .i64 0], #[.string ⟨s.toArray⟩, .int .i64 (loc3 : Int), .int .i64 (err3 : Int)], 129⟩, ⟨6, w.heap.size + 1 + 1, (leafC zlab zlab 0).toArray, (leafC p1 p2 (n : Int)).toArray, 77⟩] [w.heap.size + 1, w.heap.size + 1 + 1] [[(8, none)], [(5, none)], [(7, none)], [(9, none)], [(26, some 1), (27, some 2), (28, some 3)], [(2, none), (25, some 0)], [(3, none), (29, some 4)]] [eqv _, eqv _, eqv _, eqv _, eqv _, anyv, anyv] (by kernel_rfl) (by kernel_rfl)
  case hmono => repeat (first | exact trivial | refine ⟨fun _ _ _ _ h => h, ?_⟩)
  case hlt => exact (List.forall_mem_cons.2 ⟨(show (5 : Nat) < 7 by decide), (List.forall_mem_cons.2 ⟨(show (6 : Nat) < 7 by decide), (fun _ h => nomatch h)⟩)⟩)
  case h0 => exact (List.forall_mem_cons.2 ⟨R3, (List.forall_mem_cons.2 ⟨I3, (fun _ h => nomatch h)⟩)⟩)
  case hobs =>
    refine ⟨?_, ?_⟩
    · rintro L a1 w1 hT hP hS ⟨h8, -⟩   -- 0: Op.load 129 t8
      have e8 : a1.tmps.getD 8 undef = _ := h8
      have f8 := getD_form e8
      clear h8
      exact copy_load 129 (.tmp 8) rfl (w5.heap.size) e8 (Blk.drew C3) hT (by intro h; rcases List.mem_cons.1 h with h | h; omega; rcases List.mem_cons.1 h with h | h; omega; cases h) _ Try.underlying129 (by rfl) (size_cur _ _ _) (copy_val hP (List.forall_mem_cons.2 ⟨(show (5 : Nat) ≠ 0 by decide), (List.forall_mem_cons.2 ⟨(show (6 : Nat) ≠ 0 by decide), (fun _ h => nomatch h)⟩)⟩) rfl)
    refine ⟨?_, ?_⟩
    · rintro L a1 w1 hT hP hS ⟨h5, -⟩   -- 1: Op.load 25 t5
      have e5 : a1.tmps.getD 5 undef = _ := h5
      have f5 := getD_form e5
      clear h5
      exact copy_load 25 (.tmp 5) rfl (u1.heap.size + 1) e5 (Blk.drew P1) hT (by intro h; rcases List.mem_cons.1 h with h | h; omega; rcases List.mem_cons.1 h with h | h; omega; cases h) _ Try.underlying25 (by rfl) z1 (copy_val hP (List.forall_mem_cons.2 ⟨(show (5 : Nat) ≠ 1 by decide), (List.forall_mem_cons.2 ⟨(show (6 : Nat) ≠ 1 by decide), (fun _ h => nomatch h)⟩)⟩) rfl)
    refine ⟨?_, ?_⟩
    · rintro L a1 w1 hT hP hS ⟨h7, -⟩   -- 2: Op.load 25 t7
      have e7 : a1.tmps.getD 7 undef = _ := h7
      have f7 := getD_form e7
      clear h7
      exact copy_load 25 (.tmp 7) rfl (w3.heap.size + 1) e7 (Blk.drew P2) hT (by intro h; rcases List.mem_cons.1 h with h | h; omega; rcases List.mem_cons.1 h with h | h; omega; cases h) _ Try.underlying25 (by rfl) z2 (copy_val hP (List.forall_mem_cons.2 ⟨(show (5 : Nat) ≠ 2 by decide), (List.forall_mem_cons.2 ⟨(show (6 : Nat) ≠ 2 by decide), (fun _ h => nomatch h)⟩)⟩) rfl)
    refine ⟨?_, ?_⟩
    · rintro L a1 w1 hT hP hS ⟨h9, -⟩   -- 3: Op.move t9
      have e9 : a1.tmps.getD 9 undef = _ := h9
      have f9 := getD_form e9
      clear h9
      go_simp; exact copy_val hP (List.forall_mem_cons.2 ⟨(show (5 : Nat) ≠ 3 by decide), (List.forall_mem_cons.2 ⟨(show (6 : Nat) ≠ 3 by decide), (fun _ h => nomatch h)⟩)⟩) rfl
    refine ⟨?_, ?_⟩
    · rintro L a1 w1 hT hP hS ⟨h26, h27, h28, -⟩   -- 4: Op.build 77 #[(0, t26), (1, t27), (2, t28)]
      have e26 : a1.tmps.getD 26 undef = _ := h26
      have f26 := getD_form e26
      have e27 : a1.tmps.getD 27 undef = _ := h27
      have f27 := getD_form e27
      have e28 : a1.tmps.getD 28 undef = _ := h28
      have f28 := getD_form e28
      clear h26 h27 h28
      have hv8 : [(0, a1.tmps.getD 26 undef), (1, a1.tmps.getD 27 undef), (2, a1.tmps.getD 28 undef)] = [(0, Value.agg (labA p1)), (1, .agg (labA p2)), (2, .int .i64 (n : Int))] := by rw [e26, e27, e28]
      exact wp_buildS 77 [(0, .tmp 26), (1, .tmp 27), (2, .tmp 28)] rfl _ hv8 _ hbd (copy_val hP (List.forall_mem_cons.2 ⟨(show (5 : Nat) ≠ 4 by decide), (List.forall_mem_cons.2 ⟨(show (6 : Nat) ≠ 4 by decide), (fun _ h => nomatch h)⟩)⟩) rfl)
    refine ⟨?_, ?_⟩
    · rintro L a1 w1 hT hP hS ⟨h2, h25, -⟩   -- 5: Op.store 129 t2 t25
      have e2 : a1.tmps.getD 2 undef = _ := h2
      have f2 := getD_form e2
      have e25 : a1.tmps.getD 25 undef = _ := h25
      have f25 := getD_form e25
      clear h2 h25
      exact copy_store hP ⟨5, w.heap.size + 1, #[.string ⟨#[]⟩, .int .i64 0, .int .i64 0], #[.string ⟨s.toArray⟩, .int .i64 (loc3 : Int), .int .i64 (err3 : Int)], 129⟩ (List.mem_cons_self ..) rfl (by decide) hS.self (List.mem_cons_self ..) (List.forall_mem_cons.2 ⟨(fun h => absurd rfl h), (List.forall_mem_cons.2 ⟨(fun _ => (show w.heap.size + 1 + 1 ≠ w.heap.size + 1 by omega)), (fun _ h => nomatch h)⟩)⟩) (List.forall_mem_cons.2 ⟨(fun _ => rfl), (List.forall_mem_cons.2 ⟨(fun h => absurd h (show (6 : Nat) ≠ 5 by decide)), (fun _ h => nomatch h)⟩)⟩) 129 (.tmp 2) (.tmp 25) rfl e2 e25 rfl (size_cur _ _ _) (one_cur _ _ _)
    refine ⟨?_, ?_⟩
    · rintro L a1 w1 hT hP hS ⟨h3, h29, -⟩   -- 6: Op.store 77 t3 t29
      have e3 : a1.tmps.getD 3 undef = _ := h3
      have f3 := getD_form e3
      have e29 : a1.tmps.getD 29 undef = _ := h29
      have f29 := getD_form e29
      clear h3 h29
      exact copy_store hP ⟨6, w.heap.size + 1 + 1, (leafC zlab zlab 0).toArray, (leafC p1 p2 (n : Int)).toArray, 77⟩ (List.mem_cons_of_mem _ (List.mem_cons_self ..)) rfl (by decide) hS.self (List.mem_cons_of_mem _ (List.mem_cons_self ..)) (List.forall_mem_cons.2 ⟨(fun _ => (show w.heap.size + 1 ≠ w.heap.size + 1 + 1 by omega)), (List.forall_mem_cons.2 ⟨(fun h => absurd rfl h), (fun _ h => nomatch h)⟩)⟩) (List.forall_mem_cons.2 ⟨(fun h => absurd h (show (5 : Nat) ≠ 6 by decide)), (List.forall_mem_cons.2 ⟨(fun _ => rfl), (fun _ h => nomatch h)⟩)⟩) 77 (.tmp 3) (.tmp 29) rfl e3 e29 heq hz hone
    trivial
  case hend =>
    intro w2 hK hst
    have b2 := hst _ (List.mem_cons_self ..)
    have b3 := hst _ (List.mem_cons_of_mem _ (List.mem_cons_self ..))
    rintro _ rfl _ rfl _ rfl _ rfl _ rfl
    simp only [relEnd, Act.put, List.setIfInBounds_toArray, List.set_cons_succ, List.set_cons_zero]
    have hB6 := hK.below hB3 (by intro g hg; rcases List.mem_cons.1 hg with h | h; omega; rcases List.mem_cons.1 h with h | h; omega; cases h)
    go_wp2
    exact bodyPost_ret (v := .tuple #[.agg #[.string ⟨s.toArray⟩, .int .i64 (loc3 : Int), .int .i64 (err3 : Int)], .agg (leafC p1 p2 (n : Int)).toArray]) (results_two (by rfl) _ b2 b3 _ _ (by rfl) (by rfl) Try.underlying129 (by rfl) (size_cur _ _ _) Try.underlying77 (by rfl) hz) rfl ⟨rfl, hB6⟩
end Go.Proofs.Ytgjmnhbkdccgpaa

/- From RdF. -/
namespace Go.Proofs.Ytgjmnhbkdccgpaa
open Go.RowKit

set_option maxRecDepth 100000 in
set_option maxHeartbeats 2000000 in
theorem ritemD_any (s : List UInt8) (hs : s.length ≤ 1000000) (r : D.Rd) (hr : r.loc ≤ s.length) (w : World) :
    Calls Try.prog 93 #[curV s r] w fun e w' => e = .returned (.tuple #[curV s (D.ritem s r).2, .agg (itemC ((D.ritem s r).1.1 : Int) (D.ritem s r).1.2.1 (D.ritem s r).1.2.2.1 ((D.ritem s r).1.2.2.2 : Int)).toArray]) ∧ Below w.heap.size w w' := by
  have hF : D.ritem s r = (((D.number s r).1, (D.label s (D.number s r).2).1, (D.label s (D.label s (D.number s r).2).2).1, (D.number s (D.label s (D.label s (D.number s r).2).2).2).1), (D.number s (D.label s (D.label s (D.number s r).2).2).2).2) := rfl
  rw [hF]
  clear hF
  have hr1 : (D.number s r).2.loc ≤ s.length := D.number_loc hr
  have L1 := Lib.hid (fun W => rnumber2_any s hs r hr W)
  generalize D.number s r = T1 at *
  obtain ⟨n, r1⟩ := T1
  dsimp only at *
  have l1 := D.label_len s r1
  have hr2 : (D.label s r1).2.loc ≤ s.length := D.take_loc s r1 32 hr1
  have L2 := Lib.hid (fun W => rlabel2_any s hs r1 hr1 W)
  generalize D.label s r1 = T2 at *
  obtain ⟨p1, r2⟩ := T2
  dsimp only at *
  have l2 := D.label_len s r2
  have hr3 : (D.label s r2).2.loc ≤ s.length := D.take_loc s r2 32 hr2
  have L3 := Lib.hid (fun W => rlabel2_any s hs r2 hr2 W)
  generalize D.label s r2 = T3 at *
  obtain ⟨p2, r3⟩ := T3
  dsimp only at *
  have L4 := Lib.hid (fun W => rnumber2_any s hs r3 hr3 W)
  generalize D.number s r3 = T4 at *
  obtain ⟨t, ⟨loc4, err4⟩⟩ := T4
  obtain ⟨loc, err⟩ := r
  obtain ⟨loc1, err1⟩ := r1
  obtain ⟨loc2, err2⟩ := r2
  obtain ⟨loc3, err3⟩ := r3
  clear hr1 hr2 hr3
  unfold curV at L1 L2 L3 L4 ⊢
  dsimp only at L1 L2 L3 L4 l1 l2 ⊢
  obtain ⟨D0, R0, I0, hB0⟩ := three_new w #[.string ⟨s.toArray⟩, .int .i64 (loc : Int), .int .i64 (err : Int)] #[.string ⟨#[]⟩, .int .i64 0, .int .i64 0] (itemC 0 zlab zlab 0).toArray 129 129 72
  have f1 := lab_fit p1 l1
  have f2 := lab_fit p2 l2
  have z1 := lab_sz p1 l1
  have z2 := lab_sz p2 l2
  have s1 := lab_spl p1 l1
  have s2 := lab_spl p2 l2
  have o1 := labA_all p1
  have o2 := labA_all p2
  have hbd := build_told (n : Int) (t : Int) p1 p2 l1 l2
  have hz : (Try.prog.info? 72).map (·.size) = some (itemC (n : Int) p1 p2 (t : Int)).toArray.size := by rw [List.size_toArray, itemC_length (n : Int) p1 p2 _ l1 l2]; exact info_ritem
  have heq : (itemC (n : Int) p1 p2 (t : Int)).toArray.size = (itemC 0 zlab zlab 0).toArray.size := by rw [List.size_toArray, List.size_toArray, itemC_length (n : Int) p1 p2 _ l1 l2]; rfl
  have hone := itemC_one (n : Int) p1 p2 (t : Int)
  clear l1 l2
  obtain ⟨x00, x01, x02, y00, y01, y02⟩ := free3 D0
  go_enter Try.func93, Try.ntmps93
  go_wp2_with (first | (refine wpList_fresh (by rfl) 72 (by rfl) _ fresh_told ?_; simp only [Act.put, List.setIfInBounds_toArray, List.set_cons_succ, List.set_cons_zero]; try simp only [World.size_alloc]) | (refine wpList_fresh (by rfl) 25 (by rfl) _ fresh_lab1 ?_; simp only [Act.put, List.setIfInBounds_toArray, List.set_cons_succ, List.set_cons_zero]; try simp only [World.size_alloc]) | (go_at_call 119; (with_reducible refine (L1.out _).mono ?_); go_loud (rintro e u1 ⟨rfl, hu1⟩; have D0' := (D0.at_ hu1).alloc (.cells #[.string ⟨s.toArray⟩, .int .i64 (loc1 : Int), .int .i64 (err1 : Int)] 129); have R0' := (R0.at_ hu1).alloc (.cells #[.string ⟨s.toArray⟩, .int .i64 (loc1 : Int), .int .i64 (err1 : Int)] 129); have I0' := (I0.at_ hu1).alloc (.cells #[.string ⟨s.toArray⟩, .int .i64 (loc1 : Int), .int .i64 (err1 : Int)] 129); have hB0' := (hB0.trans (hu1.mono hB0.size)).alloc (by have := hB0.size; have := hu1.size; omega) (.cells #[.string ⟨s.toArray⟩, .int .i64 (loc1 : Int), .int .i64 (err1 : Int)] 129); have g0 : w.heap.size + 3 ≤ u1.heap.size := (by have := hu1.size; simp only [World.size_alloc] at this; omega); obtain ⟨x10, x11, x12, y10, y11, y12⟩ := free3 (Blk.new u1 #[.string ⟨s.toArray⟩, .int .i64 (loc1 : Int), .int .i64 (err1 : Int)] 129))) | (go_at_call 119; (with_reducible refine (L4.out _).mono ?_); go_loud (rintro e u6 ⟨rfl, hu6⟩)) | (go_at_call 120; (with_reducible refine (L2.out _).mono ?_); go_loud (rintro e u2 ⟨rfl, hu2⟩)) | (go_at_call 120; (with_reducible refine (L3.out _).mono ?_); go_loud (rintro e u4 ⟨rfl, hu4⟩)) | ((refine wpList_store_blk (by rfl) 25 (.tmp 7) (.tmp 21) (by rfl) (0) (labA p1) (by rfl) (by rfl) ((two_new u2 _ _ _ _).2.1) (f1) z1 (o1) ?_; simp only [Act.put]); go_loud (intro u3 q1 o; rw [s1] at q1; obtain ⟨C1, N1⟩ := cur_lab o; have R1 := (R0'.at_ hu2).at_ N1; have I1 := (I0'.at_ hu2).at_ N1; have hB1 := (hB0'.trans (hu2.mono hB0'.size)).trans (N1.mono (by have := hB0'.size; have := hu2.size; omega)); have g1 : u1.heap.size + 1 ≤ u2.heap.size := (by have := hu2.size; simp only [World.size_alloc] at this; omega); clear o; obtain ⟨x20, x21, x22, y20, y21, y22⟩ := free3 C1)) | ((refine wpList_store_blk (by rfl) 25 (.tmp 9) (.tmp 26) (by rfl) (0) (labA p2) (by rfl) (by rfl) ((two_new u4 _ _ _ _).2.1) (f2) z2 (o2) ?_; simp only [Act.put]); go_loud (intro u5 q2 o; rw [s2] at q2; obtain ⟨C2, N2⟩ := cur_lab o; have R2 := (R1.at_ hu4).at_ N2; have I2 := (I1.at_ hu4).at_ N2; have Q1 := (q1.at_ hu4).at_ N2; have hB2 := (hB1.trans (hu4.mono hB1.size)).trans (N2.mono (by have := hB1.size; have := hu4.size; omega)); have g2 : u2.heap.size + 2 ≤ u4.heap.size := (by have := hu4.size; have := q1.lt; omega); clear o; obtain ⟨x30, x31, x32, y30, y31, y32⟩ := free3 C2)))
  have g3 : u4.heap.size + 2 ≤ u6.heap.size := (by have := hu6.size; have := q2.lt; omega)
  have C3 := Blk.new u6 #[.string ⟨s.toArray⟩, .int .i64 (loc4 : Int), .int .i64 (err4 : Int)] 129
  have R3 := (R2.at_ hu6).alloc (.cells #[.string ⟨s.toArray⟩, .int .i64 (loc4 : Int), .int .i64 (err4 : Int)] 129)
  have I3 := (I2.at_ hu6).alloc (.cells #[.string ⟨s.toArray⟩, .int .i64 (loc4 : Int), .int .i64 (err4 : Int)] 129)
  have P1 := (Q1.at_ hu6).alloc (.cells #[.string ⟨s.toArray⟩, .int .i64 (loc4 : Int), .int .i64 (err4 : Int)] 129)
  have P2 := (q2.at_ hu6).alloc (.cells #[.string ⟨s.toArray⟩, .int .i64 (loc4 : Int), .int .i64 (err4 : Int)] 129)
  have hB3 := (hB2.trans (hu6.mono hB2.size)).alloc (by omega) (.cells #[.string ⟨s.toArray⟩, .int .i64 (loc4 : Int), .int .i64 (err4 : Int)] 129)
  clear x00 x01 x02 y00 y01 y02 x10 x11 x12 y10 y11 y12 x20 x21 x22 y20 y21 y22 x30 x31 x32 y30 y31 y32 hu6 hu4 hu2 hu1 hB0 hB0' hB1 hB2 R2 I2 R1 I1 D0 D0' R0 R0' I0 I0' q1 q2 Q1 C1 C2 N1 N2
  generalize u6.alloc (.cells #[.string ⟨s.toArray⟩, .int .i64 (loc4 : Int), .int .i64 (err4 : Int)] 129) = W6 at *
  apply wp_region_copy 8 rfl [⟨6, w.heap.size + 1, #[.string ⟨#[]⟩, .int .i64 0, .int .i64 0], #[.string ⟨s.toArray⟩, .int .i64 (loc4 : Int), .int .i64 (err4 : Int)], 129⟩, ⟨7, w.heap.size + 1 + 1, (itemC 0 zlab zlab 0).toArray, (itemC (n : Int) p1 p2 (t : Int)).toArray, 72⟩] [w.heap.size + 1, w.heap.size + 1 + 1] [[(10, none)], [(5, none)], [(7, none)], [(9, none)], [(11, none)], [(33, some 1), (34, some 2), (35, some 3), (36, some 4)], [(2, none), (32, some 0)], [(3, none), (37, some 5)]] [eqv _, eqv _, eqv _, eqv _, eqv _, eqv _, anyv, anyv] (by kernel_rfl) (by kernel_rfl)
  case hmono => repeat (first | exact trivial | refine ⟨fun _ _ _ _ h => h, ?_⟩)
  case hlt => exact (List.forall_mem_cons.2 ⟨(show (6 : Nat) < 8 by decide), (List.forall_mem_cons.2 ⟨(show (7 : Nat) < 8 by decide), (fun _ h => nomatch h)⟩)⟩)
  case h0 => exact (List.forall_mem_cons.2 ⟨R3, (List.forall_mem_cons.2 ⟨I3, (fun _ h => nomatch h)⟩)⟩)
  case hobs =>
    refine ⟨?_, ?_⟩
    · rintro L a1 w1 hT hP hS ⟨h10, -⟩   -- 0: Op.load 129 t10
      have e10 : a1.tmps.getD 10 undef = _ := h10
      have f10 := getD_form e10
      clear h10
      exact copy_load 129 (.tmp 10) rfl (u6.heap.size) e10 (Blk.drew C3) hT (by intro h; rcases List.mem_cons.1 h with h | h; omega; rcases List.mem_cons.1 h with h | h; omega; cases h) _ Try.underlying129 (by rfl) (size_cur _ _ _) (copy_val hP (List.forall_mem_cons.2 ⟨(show (6 : Nat) ≠ 0 by decide), (List.forall_mem_cons.2 ⟨(show (7 : Nat) ≠ 0 by decide), (fun _ h => nomatch h)⟩)⟩) rfl)
    refine ⟨?_, ?_⟩
    · rintro L a1 w1 hT hP hS ⟨h5, -⟩   -- 1: Op.move t5
      have e5 : a1.tmps.getD 5 undef = _ := h5
      have f5 := getD_form e5
      clear h5
      go_simp; exact copy_val hP (List.forall_mem_cons.2 ⟨(show (6 : Nat) ≠ 1 by decide), (List.forall_mem_cons.2 ⟨(show (7 : Nat) ≠ 1 by decide), (fun _ h => nomatch h)⟩)⟩) rfl
    refine ⟨?_, ?_⟩
    · rintro L a1 w1 hT hP hS ⟨h7, -⟩   -- 2: Op.load 25 t7
      have e7 : a1.tmps.getD 7 undef = _ := h7
      have f7 := getD_form e7
      clear h7
      exact copy_load 25 (.tmp 7) rfl (u2.heap.size + 1) e7 (Blk.drew P1) hT (by intro h; rcases List.mem_cons.1 h with h | h; omega; rcases List.mem_cons.1 h with h | h; omega; cases h) _ Try.underlying25 (by rfl) z1 (copy_val hP (List.forall_mem_cons.2 ⟨(show (6 : Nat) ≠ 2 by decide), (List.forall_mem_cons.2 ⟨(show (7 : Nat) ≠ 2 by decide), (fun _ h => nomatch h)⟩)⟩) rfl)
    refine ⟨?_, ?_⟩
    · rintro L a1 w1 hT hP hS ⟨h9, -⟩   -- 3: Op.load 25 t9
      have e9 : a1.tmps.getD 9 undef = _ := h9
      have f9 := getD_form e9
      clear h9
      exact copy_load 25 (.tmp 9) rfl (u4.heap.size + 1) e9 (Blk.drew P2) hT (by intro h; rcases List.mem_cons.1 h with h | h; omega; rcases List.mem_cons.1 h with h | h; omega; cases h) _ Try.underlying25 (by rfl) z2 (copy_val hP (List.forall_mem_cons.2 ⟨(show (6 : Nat) ≠ 3 by decide), (List.forall_mem_cons.2 ⟨(show (7 : Nat) ≠ 3 by decide), (fun _ h => nomatch h)⟩)⟩) rfl)
    refine ⟨?_, ?_⟩
    · rintro L a1 w1 hT hP hS ⟨h11, -⟩   -- 4: Op.move t11
      have e11 : a1.tmps.getD 11 undef = _ := h11
      have f11 := getD_form e11
      clear h11
      go_simp; exact copy_val hP (List.forall_mem_cons.2 ⟨(show (6 : Nat) ≠ 4 by decide), (List.forall_mem_cons.2 ⟨(show (7 : Nat) ≠ 4 by decide), (fun _ h => nomatch h)⟩)⟩) rfl
    refine ⟨?_, ?_⟩
    · rintro L a1 w1 hT hP hS ⟨h33, h34, h35, h36, -⟩   -- 5: Op.build 72 #[(0, t33), (1, t34), (2, t35), (3, t36)]
      have e33 : a1.tmps.getD 33 undef = _ := h33
      have f33 := getD_form e33
      have e34 : a1.tmps.getD 34 undef = _ := h34
      have f34 := getD_form e34
      have e35 : a1.tmps.getD 35 undef = _ := h35
      have f35 := getD_form e35
      have e36 : a1.tmps.getD 36 undef = _ := h36
      have f36 := getD_form e36
      clear h33 h34 h35 h36
      have hv8 : [(0, a1.tmps.getD 33 undef), (1, a1.tmps.getD 34 undef), (2, a1.tmps.getD 35 undef), (3, a1.tmps.getD 36 undef)] = [(0, Value.int .i64 (n : Int)), (1, .agg (labA p1)), (2, .agg (labA p2)), (3, .int .i64 (t : Int))] := by rw [e33, e34, e35, e36]
      exact wp_buildS 72 [(0, .tmp 33), (1, .tmp 34), (2, .tmp 35), (3, .tmp 36)] rfl _ hv8 _ hbd (copy_val hP (List.forall_mem_cons.2 ⟨(show (6 : Nat) ≠ 5 by decide), (List.forall_mem_cons.2 ⟨(show (7 : Nat) ≠ 5 by decide), (fun _ h => nomatch h)⟩)⟩) rfl)
    refine ⟨?_, ?_⟩
    · rintro L a1 w1 hT hP hS ⟨h2, h32, -⟩   -- 6: Op.store 129 t2 t32
      have e2 : a1.tmps.getD 2 undef = _ := h2
      have f2 := getD_form e2
      have e32 : a1.tmps.getD 32 undef = _ := h32
      have f32 := getD_form e32
      clear h2 h32
      exact copy_store hP ⟨6, w.heap.size + 1, #[.string ⟨#[]⟩, .int .i64 0, .int .i64 0], #[.string ⟨s.toArray⟩, .int .i64 (loc4 : Int), .int .i64 (err4 : Int)], 129⟩ (List.mem_cons_self ..) rfl (by decide) hS.self (List.mem_cons_self ..) (List.forall_mem_cons.2 ⟨(fun h => absurd rfl h), (List.forall_mem_cons.2 ⟨(fun _ => (show w.heap.size + 1 + 1 ≠ w.heap.size + 1 by omega)), (fun _ h => nomatch h)⟩)⟩) (List.forall_mem_cons.2 ⟨(fun _ => rfl), (List.forall_mem_cons.2 ⟨(fun h => absurd h (show (7 : Nat) ≠ 6 by decide)), (fun _ h => nomatch h)⟩)⟩) 129 (.tmp 2) (.tmp 32) rfl e2 e32 rfl (size_cur _ _ _) (one_cur _ _ _)
    refine ⟨?_, ?_⟩
    · rintro L a1 w1 hT hP hS ⟨h3, h37, -⟩   -- 7: Op.store 72 t3 t37
      have e3 : a1.tmps.getD 3 undef = _ := h3
      have f3 := getD_form e3
      have e37 : a1.tmps.getD 37 undef = _ := h37
      have f37 := getD_form e37
      clear h3 h37
      exact copy_store hP ⟨7, w.heap.size + 1 + 1, (itemC 0 zlab zlab 0).toArray, (itemC (n : Int) p1 p2 (t : Int)).toArray, 72⟩ (List.mem_cons_of_mem _ (List.mem_cons_self ..)) rfl (by decide) hS.self (List.mem_cons_of_mem _ (List.mem_cons_self ..)) (List.forall_mem_cons.2 ⟨(fun _ => (show w.heap.size + 1 ≠ w.heap.size + 1 + 1 by omega)), (List.forall_mem_cons.2 ⟨(fun h => absurd rfl h), (fun _ h => nomatch h)⟩)⟩) (List.forall_mem_cons.2 ⟨(fun h => absurd h (show (6 : Nat) ≠ 7 by decide)), (List.forall_mem_cons.2 ⟨(fun _ => rfl), (fun _ h => nomatch h)⟩)⟩) 72 (.tmp 3) (.tmp 37) rfl e3 e37 heq hz hone
    trivial
  case hend =>
    intro w2 hK hst
    have b2 := hst _ (List.mem_cons_self ..)
    have b3 := hst _ (List.mem_cons_of_mem _ (List.mem_cons_self ..))
    rintro _ rfl _ rfl _ rfl _ rfl _ rfl _ rfl
    simp only [relEnd, Act.put, List.setIfInBounds_toArray, List.set_cons_succ, List.set_cons_zero]
    have hB6 := hK.below hB3 (by intro g hg; rcases List.mem_cons.1 hg with h | h; omega; rcases List.mem_cons.1 h with h | h; omega; cases h)
    go_wp2
    exact bodyPost_ret (v := .tuple #[.agg #[.string ⟨s.toArray⟩, .int .i64 (loc4 : Int), .int .i64 (err4 : Int)], .agg (itemC (n : Int) p1 p2 (t : Int)).toArray]) (results_two (by rfl) _ b2 b3 _ _ (by rfl) (by rfl) Try.underlying129 (by rfl) (size_cur _ _ _) Try.underlying72 (by rfl) hz) rfl ⟨rfl, hB6⟩
end Go.Proofs.Ytgjmnhbkdccgpaa

/- From NRef. -/
namespace Go.Proofs.Ytgjmnhbkdccgpaa
open Go.RowKit

set_option maxHeartbeats 1000000 in
theorem rflag_any (b : Bool) (w : World) : Calls Try.prog 48 #[.bool b] w fun e w' => e = .returned (.string ⟨(D.flagB b).toArray⟩) ∧ Below w.heap.size w w' := by
  cases b with
  | false =>
    go_enter Try.func48, Try.ntmps48
    go_wp2
    go_ret
    exact ⟨rfl, Below.refl _ _⟩
  | true =>
    go_enter Try.func48, Try.ntmps48
    go_wp2
    go_ret
    exact ⟨rfl, Below.refl _ _⟩
set_option maxHeartbeats 1000000 in
theorem rlab_any (l : List UInt8) (hl : l.length = 32) (w : World) : Calls Try.prog 80 #[.agg (labA l)] w fun e w' => e = .returned (.string ⟨l.toArray⟩) ∧ Below w.heap.size w w' := by
  have B0 := Blk.new w (labA l) 25
  have hB := below_alloc1 w (.cells (labA l) 25)
  have hc : (convert 36 9 (.slice (some ⟨w.heap.size, 0, none⟩) 32 32)).run Try.prog (w.alloc (.cells (labA l) 25)) = .ok (.string ⟨l.toArray⟩) (w.alloc (.cells (labA l) 25)) :=
    conv_at hl (blk_rangeL (o := 0) (C := l.map byteV) B0 (fun j u h => by rw [Nat.zero_add]; exact h))
  go_enter Try.func80, Try.ntmps80
  go_wp2
  go_ret
  exact ⟨rfl, hB⟩
theorem item_lab1 (n : Int) (p s : List UInt8) (t : Int) : ∀ j, j < (labA p).size → (itemC n p s t).toArray[1 + j]? = (labA p)[j]? := fun j hj => by
  rw [List.getElem?_toArray]
  have hj' : j < (p.map byteV).length := by rw [List.length_map]; rw [labA_size] at hj; exact hj
  rw [itemC_pre n p s t j _ (List.getElem?_eq_getElem hj')]
  unfold labA; rw [List.getElem?_toArray, List.getElem?_eq_getElem hj']
set_option maxRecDepth 100000 in
set_option maxHeartbeats 1000000 in
theorem rgoodI_any (n : Int) (p s : List UInt8) (t : Int) (hp : p.length = 32) (hs : s.length = 32) (w : World) :
    Calls Try.prog 75 #[.agg (itemC n p s t).toArray] w fun e w' => e = .returned (.bool (D.goodI n p t)) ∧ Below w.heap.size w w' := by
  have GG := Lib.hid (fun W => rgood_any n p hp W)
  have hz := size_lab p hp
  have B0 := Blk.new w (itemC n p s t).toArray 72
  have hB := below_alloc1 w (.cells (itemC n p s t).toArray 72)
  have e1 := item_lab1 n p s t
  have hG : D.goodI n p t = (B.good n p && decide (0 ≤ t) && decide (t ≤ 1073741824)) := rfl
  have k0 : (w.alloc (.cells (itemC n p s t).toArray 72)).cell? ⟨w.heap.size, 0, none⟩ = some (.int .i64 n) := B0.cell 0
  have k2 : ∀ W, Below (w.alloc (.cells (itemC n p s t).toArray 72)).heap.size (w.alloc (.cells (itemC n p s t).toArray 72)) W → W.cell? ⟨w.heap.size, 65, none⟩ = some (.int .i64 t) := fun W h => ((B0.at_ h).cell 65).trans (by rw [List.getElem?_toArray]; exact itemC_at n p s t hp hs)
  have K2 := Lib.hid k2
  clear k2
  generalize D.goodI n p t = R at *
  cases hg : B.good n p with
  | false =>
    rw [hg] at GG hG
    simp only [Bool.false_and] at hG
    subst hG
    go_enter Try.func75, Try.ntmps75
    go_wp2_with (first | (refine wpList_load_blk (by rfl) 25 (.tmp 5) (by rfl) (1) (by rfl) (B0) (labA p) (e1) _ Try.underlying25 (by rfl) hz ?_; simp only [Act.put, List.setIfInBounds_toArray, List.set_cons_succ, List.set_cons_zero]) | (go_at_call 110; (with_reducible refine (GG.out _).mono ?_); rintro e w1 ⟨rfl, hb1⟩; have k3 := K2.out _ hb1))
    go_ret
    exact ⟨rfl, hB.trans (hb1.mono hB.size)⟩
  | true =>
    rw [hg] at GG hG
    simp only [Bool.true_and] at hG
    by_cases c1 : 0 ≤ t
    · have d1 : decide (0 ≤ t) = true := by simp; omega
      by_cases c2 : t ≤ 1073741824
      · have d2 : decide (t ≤ 1073741824) = true := by simp; omega
        rw [d1, d2] at hG
        subst hG
        go_enter Try.func75, Try.ntmps75
        go_wp2_with (first | (refine wpList_load_blk (by rfl) 25 (.tmp 5) (by rfl) (1) (by rfl) (B0) (labA p) (e1) _ Try.underlying25 (by rfl) hz ?_; simp only [Act.put, List.setIfInBounds_toArray, List.set_cons_succ, List.set_cons_zero]) | (go_at_call 110; (with_reducible refine (GG.out _).mono ?_); rintro e w1 ⟨rfl, hb1⟩; have k3 := K2.out _ hb1))
        go_ret
        exact ⟨rfl, hB.trans (hb1.mono hB.size)⟩
      · have d2 : decide (t ≤ 1073741824) = false := by simp; omega
        rw [d1, d2] at hG
        subst hG
        go_enter Try.func75, Try.ntmps75
        go_wp2_with (first | (refine wpList_load_blk (by rfl) 25 (.tmp 5) (by rfl) (1) (by rfl) (B0) (labA p) (e1) _ Try.underlying25 (by rfl) hz ?_; simp only [Act.put, List.setIfInBounds_toArray, List.set_cons_succ, List.set_cons_zero]) | (go_at_call 110; (with_reducible refine (GG.out _).mono ?_); rintro e w1 ⟨rfl, hb1⟩; have k3 := K2.out _ hb1))
        go_ret
        exact ⟨rfl, hB.trans (hb1.mono hB.size)⟩
    · have d1 : decide (0 ≤ t) = false := by simp; omega
      rw [d1, Bool.false_and] at hG
      subst hG
      go_enter Try.func75, Try.ntmps75
      go_wp2_with (first | (refine wpList_load_blk (by rfl) 25 (.tmp 5) (by rfl) (1) (by rfl) (B0) (labA p) (e1) _ Try.underlying25 (by rfl) hz ?_; simp only [Act.put, List.setIfInBounds_toArray, List.set_cons_succ, List.set_cons_zero]) | (go_at_call 110; (with_reducible refine (GG.out _).mono ?_); rintro e w1 ⟨rfl, hb1⟩; have k3 := K2.out _ hb1))
      go_ret
      exact ⟨rfl, hB.trans (hb1.mono hB.size)⟩
theorem ord_vals (a b : List UInt8) : B.ord a b = 0 ∧ B.cmn a b = 256 ∨ B.ord a b = 1 ∨ B.ord a b = -1 := by
  unfold B.ord
  split
  · exact .inl ⟨rfl, by assumption⟩
  · split
    · exact .inr (.inl rfl)
    · exact .inr (.inr rfl)
set_option maxRecDepth 100000 in
set_option maxHeartbeats 2000000 in
theorem rchkI_any (n : Int) (p s : List UInt8) (t : Int) (n' : Int) (p' s' : List UInt8) (t' : Int) (hp : p.length = 32) (hs : s.length = 32) (hp' : p'.length = 32) (hs' : s'.length = 32) (w : World) :
    Calls Try.prog 45 #[.agg (itemC n p s t).toArray, .agg (itemC n' p' s' t').toArray] w fun e w' => e = .returned (.int .i64 (D.innerE n p t n' p' t')) ∧ Below w.heap.size w w' := by
  have GA := Lib.hid (fun W => rgoodI_any n p s t hp hs W)
  have GB := Lib.hid (fun W => rgoodI_any n' p' s' t' hp' hs' W)
  have CC := Lib.hid (fun W => rcmn_any p p' hp hp' W)
  have OO := Lib.hid (fun W => rord_any p p' hp hp' W)
  have hzA : (Try.prog.info? 72).map (·.size) = some (itemC n p s t).toArray.size := by rw [List.size_toArray, itemC_length n p s t hp hs]; exact info_ritem
  have hzB : (Try.prog.info? 72).map (·.size) = some (itemC n' p' s' t').toArray.size := by rw [List.size_toArray, itemC_length n' p' s' t' hp' hs']; exact info_ritem
  have eA := item_lab1 n p s t
  have eB := item_lab1 n' p' s' t'
  have kA : (itemC n p s t).toArray[0]? = some (.int .i64 n) := rfl
  have kB : (itemC n' p' s' t').toArray[0]? = some (.int .i64 n') := rfl
  have hz1 := size_lab p hp
  have hz2 := size_lab p' hp'
  have hE : D.innerE n p t n' p' t' = if D.goodI n p t = true ∧ D.goodI n' p' t' = true then (if n ≤ (B.cmn p p' : Nat) ∨ n' ≤ (B.cmn p p' : Nat) ∨ 0 < B.ord p p' then 3 else 0) else 1 := rfl
  have hov := ord_vals p p'
  have hgn : D.goodI n p t = true → n ≤ 256 := fun h => by obtain ⟨k, m, rfl, hk, _⟩ := D.goodI_nat h; omega
  generalize D.innerE n p t n' p' t' = R at *
  generalize D.goodI n p t = ga at *
  generalize D.goodI n' p' t' = gb at *
  have hov' : n ≤ 256 → ¬ n ≤ (B.cmn p p' : Nat) → B.ord p p' = 1 ∨ B.ord p p' = -1 := fun h1 h2 => by
    rcases hov with ⟨_, h⟩ | h | h
    · omega
    · exact .inl h
    · exact .inr h
  clear hov
  generalize ((B.cmn p p' : Nat) : Int) = c at *
  generalize B.ord p p' = od at *
  have B1 := (Blk.new w (itemC n p s t).toArray 72).alloc (.cells (itemC n' p' s' t').toArray 72)
  have B2 := blk_new1 w (.cells (itemC n p s t).toArray 72) (itemC n' p' s' t').toArray 72
  have hB := (below_alloc1 w (.cells (itemC n p s t).toArray 72)).alloc (o := .cells (itemC n' p' s' t').toArray 72) (by simp)
  generalize (itemC n p s t).toArray = IA at *
  generalize (itemC n' p' s' t').toArray = IB at *
  generalize hw0 : (w.alloc (.cells IA 72)).alloc (.cells IB 72) = w0 at *
  cases ga with
  | false =>
    rw [if_neg (by simp)] at hE
    subst hE
    go_enter Try.func45, Try.ntmps45
    go_wp2_with (first | ((refine wpList_load_blk (by rfl) 72 (.tmp 2) (by rfl) 0 (by rfl) (B1) (IA) whole_at _ Try.underlying72 (by rfl) hzA ?_; simp only [Act.put, List.setIfInBounds_toArray, List.set_cons_succ, List.set_cons_zero])) | ((refine wpList_load_blk (by rfl) 72 (.tmp 3) (by rfl) 0 (by rfl) (B2) (IB) whole_at _ Try.underlying72 (by rfl) hzB ?_; simp only [Act.put, List.setIfInBounds_toArray, List.set_cons_succ, List.set_cons_zero])) | (refine wpList_load_blk (by rfl) 25 (.tmp 14) (by rfl) (1) (by rfl) (B1) (labA p) (eA) _ Try.underlying25 (by rfl) hz1 ?_; simp only [Act.put, List.setIfInBounds_toArray, List.set_cons_succ, List.set_cons_zero]) | (refine wpList_load_blk (by rfl) 25 (.tmp 16) (by rfl) (1) (by rfl) (B2) (labA p') (eB) _ Try.underlying25 (by rfl) hz2 ?_; simp only [Act.put, List.setIfInBounds_toArray, List.set_cons_succ, List.set_cons_zero]) | (refine wpList_load_blk (by rfl) 25 (.tmp 30) (by rfl) (1) (by rfl) (B1) (labA p) (eA) _ Try.underlying25 (by rfl) hz1 ?_; simp only [Act.put, List.setIfInBounds_toArray, List.set_cons_succ, List.set_cons_zero]) | (refine wpList_load_blk (by rfl) 25 (.tmp 32) (by rfl) (1) (by rfl) (B2) (labA p') (eB) _ Try.underlying25 (by rfl) hz2 ?_; simp only [Act.put, List.setIfInBounds_toArray, List.set_cons_succ, List.set_cons_zero]) | (go_at_call 75; first | ((with_reducible refine (GA.out _).mono ?_); rintro e w1 ⟨rfl, h1⟩; replace B1 := B1.at_ h1; replace B2 := B2.at_ h1; replace hB := hB.trans (h1.mono hB.size); clear h1; have c1 := B1.cellv kA; have c2 := B2.cellv kB) | ((with_reducible refine (GB.out _).mono ?_); rintro e w1 ⟨rfl, h1⟩; replace B1 := B1.at_ h1; replace B2 := B2.at_ h1; replace hB := hB.trans (h1.mono hB.size); clear h1; have c1 := B1.cellv kA; have c2 := B2.cellv kB)) | ((go_at_call 76; (with_reducible refine (CC.out _).mono ?_)); rintro e w1 ⟨rfl, h1⟩; replace B1 := B1.at_ h1; replace B2 := B2.at_ h1; replace hB := hB.trans (h1.mono hB.size); clear h1; have c1 := B1.cellv kA; have c2 := B2.cellv kB) | ((go_at_call 77; (with_reducible refine (OO.out _).mono ?_)); rintro e w1 ⟨rfl, h1⟩; replace B1 := B1.at_ h1; replace B2 := B2.at_ h1; replace hB := hB.trans (h1.mono hB.size); clear h1; have c1 := B1.cellv kA; have c2 := B2.cellv kB))
    go_ret
    exact ⟨rfl, hB⟩
  | true =>
    cases gb with
    | false =>
      rw [if_neg (by simp)] at hE
      subst hE
      go_enter Try.func45, Try.ntmps45
      go_wp2_with (first | ((refine wpList_load_blk (by rfl) 72 (.tmp 2) (by rfl) 0 (by rfl) (B1) (IA) whole_at _ Try.underlying72 (by rfl) hzA ?_; simp only [Act.put, List.setIfInBounds_toArray, List.set_cons_succ, List.set_cons_zero])) | ((refine wpList_load_blk (by rfl) 72 (.tmp 3) (by rfl) 0 (by rfl) (B2) (IB) whole_at _ Try.underlying72 (by rfl) hzB ?_; simp only [Act.put, List.setIfInBounds_toArray, List.set_cons_succ, List.set_cons_zero])) | (refine wpList_load_blk (by rfl) 25 (.tmp 14) (by rfl) (1) (by rfl) (B1) (labA p) (eA) _ Try.underlying25 (by rfl) hz1 ?_; simp only [Act.put, List.setIfInBounds_toArray, List.set_cons_succ, List.set_cons_zero]) | (refine wpList_load_blk (by rfl) 25 (.tmp 16) (by rfl) (1) (by rfl) (B2) (labA p') (eB) _ Try.underlying25 (by rfl) hz2 ?_; simp only [Act.put, List.setIfInBounds_toArray, List.set_cons_succ, List.set_cons_zero]) | (refine wpList_load_blk (by rfl) 25 (.tmp 30) (by rfl) (1) (by rfl) (B1) (labA p) (eA) _ Try.underlying25 (by rfl) hz1 ?_; simp only [Act.put, List.setIfInBounds_toArray, List.set_cons_succ, List.set_cons_zero]) | (refine wpList_load_blk (by rfl) 25 (.tmp 32) (by rfl) (1) (by rfl) (B2) (labA p') (eB) _ Try.underlying25 (by rfl) hz2 ?_; simp only [Act.put, List.setIfInBounds_toArray, List.set_cons_succ, List.set_cons_zero]) | (go_at_call 75; first | ((with_reducible refine (GA.out _).mono ?_); rintro e w1 ⟨rfl, h1⟩; replace B1 := B1.at_ h1; replace B2 := B2.at_ h1; replace hB := hB.trans (h1.mono hB.size); clear h1; have c1 := B1.cellv kA; have c2 := B2.cellv kB) | ((with_reducible refine (GB.out _).mono ?_); rintro e w1 ⟨rfl, h1⟩; replace B1 := B1.at_ h1; replace B2 := B2.at_ h1; replace hB := hB.trans (h1.mono hB.size); clear h1; have c1 := B1.cellv kA; have c2 := B2.cellv kB)) | ((go_at_call 76; (with_reducible refine (CC.out _).mono ?_)); rintro e w1 ⟨rfl, h1⟩; replace B1 := B1.at_ h1; replace B2 := B2.at_ h1; replace hB := hB.trans (h1.mono hB.size); clear h1; have c1 := B1.cellv kA; have c2 := B2.cellv kB) | ((go_at_call 77; (with_reducible refine (OO.out _).mono ?_)); rintro e w1 ⟨rfl, h1⟩; replace B1 := B1.at_ h1; replace B2 := B2.at_ h1; replace hB := hB.trans (h1.mono hB.size); clear h1; have c1 := B1.cellv kA; have c2 := B2.cellv kB))
      go_ret
      exact ⟨rfl, hB⟩
    | true =>
      rw [if_pos ⟨rfl, rfl⟩] at hE
      have hn := hgn rfl
      by_cases c1 : n ≤ c
      · have d1 : decide (n ≤ c) = true := by simp; omega
        have d1' : decide (c ≥ n) = true := by simp; omega
        rw [if_pos (by omega)] at hE
        subst hE
        go_enter Try.func45, Try.ntmps45
        go_wp2_with (first | ((refine wpList_load_blk (by rfl) 72 (.tmp 2) (by rfl) 0 (by rfl) (B1) (IA) whole_at _ Try.underlying72 (by rfl) hzA ?_; simp only [Act.put, List.setIfInBounds_toArray, List.set_cons_succ, List.set_cons_zero])) | ((refine wpList_load_blk (by rfl) 72 (.tmp 3) (by rfl) 0 (by rfl) (B2) (IB) whole_at _ Try.underlying72 (by rfl) hzB ?_; simp only [Act.put, List.setIfInBounds_toArray, List.set_cons_succ, List.set_cons_zero])) | (refine wpList_load_blk (by rfl) 25 (.tmp 14) (by rfl) (1) (by rfl) (B1) (labA p) (eA) _ Try.underlying25 (by rfl) hz1 ?_; simp only [Act.put, List.setIfInBounds_toArray, List.set_cons_succ, List.set_cons_zero]) | (refine wpList_load_blk (by rfl) 25 (.tmp 16) (by rfl) (1) (by rfl) (B2) (labA p') (eB) _ Try.underlying25 (by rfl) hz2 ?_; simp only [Act.put, List.setIfInBounds_toArray, List.set_cons_succ, List.set_cons_zero]) | (refine wpList_load_blk (by rfl) 25 (.tmp 30) (by rfl) (1) (by rfl) (B1) (labA p) (eA) _ Try.underlying25 (by rfl) hz1 ?_; simp only [Act.put, List.setIfInBounds_toArray, List.set_cons_succ, List.set_cons_zero]) | (refine wpList_load_blk (by rfl) 25 (.tmp 32) (by rfl) (1) (by rfl) (B2) (labA p') (eB) _ Try.underlying25 (by rfl) hz2 ?_; simp only [Act.put, List.setIfInBounds_toArray, List.set_cons_succ, List.set_cons_zero]) | (go_at_call 75; first | ((with_reducible refine (GA.out _).mono ?_); rintro e w1 ⟨rfl, h1⟩; replace B1 := B1.at_ h1; replace B2 := B2.at_ h1; replace hB := hB.trans (h1.mono hB.size); clear h1; have c1 := B1.cellv kA; have c2 := B2.cellv kB) | ((with_reducible refine (GB.out _).mono ?_); rintro e w1 ⟨rfl, h1⟩; replace B1 := B1.at_ h1; replace B2 := B2.at_ h1; replace hB := hB.trans (h1.mono hB.size); clear h1; have c1 := B1.cellv kA; have c2 := B2.cellv kB)) | ((go_at_call 76; (with_reducible refine (CC.out _).mono ?_)); rintro e w1 ⟨rfl, h1⟩; replace B1 := B1.at_ h1; replace B2 := B2.at_ h1; replace hB := hB.trans (h1.mono hB.size); clear h1; have c1 := B1.cellv kA; have c2 := B2.cellv kB) | ((go_at_call 77; (with_reducible refine (OO.out _).mono ?_)); rintro e w1 ⟨rfl, h1⟩; replace B1 := B1.at_ h1; replace B2 := B2.at_ h1; replace hB := hB.trans (h1.mono hB.size); clear h1; have c1 := B1.cellv kA; have c2 := B2.cellv kB))
        go_ret
        exact ⟨rfl, hB⟩
      · have d1 : decide (n ≤ c) = false := by simp; omega
        have d1' : decide (c ≥ n) = false := by simp; omega
        have ho := hov' hn c1
        by_cases c2 : n' ≤ c
        · have d2 : decide (n' ≤ c) = true := by simp; omega
          have d2' : decide (c ≥ n') = true := by simp; omega
          rw [if_pos (by omega)] at hE
          subst hE
          clear ho
          go_enter Try.func45, Try.ntmps45
          go_wp2_with (first | ((refine wpList_load_blk (by rfl) 72 (.tmp 2) (by rfl) 0 (by rfl) (B1) (IA) whole_at _ Try.underlying72 (by rfl) hzA ?_; simp only [Act.put, List.setIfInBounds_toArray, List.set_cons_succ, List.set_cons_zero])) | ((refine wpList_load_blk (by rfl) 72 (.tmp 3) (by rfl) 0 (by rfl) (B2) (IB) whole_at _ Try.underlying72 (by rfl) hzB ?_; simp only [Act.put, List.setIfInBounds_toArray, List.set_cons_succ, List.set_cons_zero])) | (refine wpList_load_blk (by rfl) 25 (.tmp 14) (by rfl) (1) (by rfl) (B1) (labA p) (eA) _ Try.underlying25 (by rfl) hz1 ?_; simp only [Act.put, List.setIfInBounds_toArray, List.set_cons_succ, List.set_cons_zero]) | (refine wpList_load_blk (by rfl) 25 (.tmp 16) (by rfl) (1) (by rfl) (B2) (labA p') (eB) _ Try.underlying25 (by rfl) hz2 ?_; simp only [Act.put, List.setIfInBounds_toArray, List.set_cons_succ, List.set_cons_zero]) | (refine wpList_load_blk (by rfl) 25 (.tmp 30) (by rfl) (1) (by rfl) (B1) (labA p) (eA) _ Try.underlying25 (by rfl) hz1 ?_; simp only [Act.put, List.setIfInBounds_toArray, List.set_cons_succ, List.set_cons_zero]) | (refine wpList_load_blk (by rfl) 25 (.tmp 32) (by rfl) (1) (by rfl) (B2) (labA p') (eB) _ Try.underlying25 (by rfl) hz2 ?_; simp only [Act.put, List.setIfInBounds_toArray, List.set_cons_succ, List.set_cons_zero]) | (go_at_call 75; first | ((with_reducible refine (GA.out _).mono ?_); rintro e w1 ⟨rfl, h1⟩; replace B1 := B1.at_ h1; replace B2 := B2.at_ h1; replace hB := hB.trans (h1.mono hB.size); clear h1; have c1 := B1.cellv kA; have c2 := B2.cellv kB) | ((with_reducible refine (GB.out _).mono ?_); rintro e w1 ⟨rfl, h1⟩; replace B1 := B1.at_ h1; replace B2 := B2.at_ h1; replace hB := hB.trans (h1.mono hB.size); clear h1; have c1 := B1.cellv kA; have c2 := B2.cellv kB)) | ((go_at_call 76; (with_reducible refine (CC.out _).mono ?_)); rintro e w1 ⟨rfl, h1⟩; replace B1 := B1.at_ h1; replace B2 := B2.at_ h1; replace hB := hB.trans (h1.mono hB.size); clear h1; have c1 := B1.cellv kA; have c2 := B2.cellv kB) | ((go_at_call 77; (with_reducible refine (OO.out _).mono ?_)); rintro e w1 ⟨rfl, h1⟩; replace B1 := B1.at_ h1; replace B2 := B2.at_ h1; replace hB := hB.trans (h1.mono hB.size); clear h1; have c1 := B1.cellv kA; have c2 := B2.cellv kB))
          go_ret
          exact ⟨rfl, hB⟩
        · have d2 : decide (n' ≤ c) = false := by simp; omega
          have d2' : decide (c ≥ n') = false := by simp; omega
          rcases ho with rfl | rfl
          · rw [if_pos (by omega)] at hE
            subst hE
            go_enter Try.func45, Try.ntmps45
            go_wp2_with (first | ((refine wpList_load_blk (by rfl) 72 (.tmp 2) (by rfl) 0 (by rfl) (B1) (IA) whole_at _ Try.underlying72 (by rfl) hzA ?_; simp only [Act.put, List.setIfInBounds_toArray, List.set_cons_succ, List.set_cons_zero])) | ((refine wpList_load_blk (by rfl) 72 (.tmp 3) (by rfl) 0 (by rfl) (B2) (IB) whole_at _ Try.underlying72 (by rfl) hzB ?_; simp only [Act.put, List.setIfInBounds_toArray, List.set_cons_succ, List.set_cons_zero])) | (refine wpList_load_blk (by rfl) 25 (.tmp 14) (by rfl) (1) (by rfl) (B1) (labA p) (eA) _ Try.underlying25 (by rfl) hz1 ?_; simp only [Act.put, List.setIfInBounds_toArray, List.set_cons_succ, List.set_cons_zero]) | (refine wpList_load_blk (by rfl) 25 (.tmp 16) (by rfl) (1) (by rfl) (B2) (labA p') (eB) _ Try.underlying25 (by rfl) hz2 ?_; simp only [Act.put, List.setIfInBounds_toArray, List.set_cons_succ, List.set_cons_zero]) | (refine wpList_load_blk (by rfl) 25 (.tmp 30) (by rfl) (1) (by rfl) (B1) (labA p) (eA) _ Try.underlying25 (by rfl) hz1 ?_; simp only [Act.put, List.setIfInBounds_toArray, List.set_cons_succ, List.set_cons_zero]) | (refine wpList_load_blk (by rfl) 25 (.tmp 32) (by rfl) (1) (by rfl) (B2) (labA p') (eB) _ Try.underlying25 (by rfl) hz2 ?_; simp only [Act.put, List.setIfInBounds_toArray, List.set_cons_succ, List.set_cons_zero]) | (go_at_call 75; first | ((with_reducible refine (GA.out _).mono ?_); rintro e w1 ⟨rfl, h1⟩; replace B1 := B1.at_ h1; replace B2 := B2.at_ h1; replace hB := hB.trans (h1.mono hB.size); clear h1; have c1 := B1.cellv kA; have c2 := B2.cellv kB) | ((with_reducible refine (GB.out _).mono ?_); rintro e w1 ⟨rfl, h1⟩; replace B1 := B1.at_ h1; replace B2 := B2.at_ h1; replace hB := hB.trans (h1.mono hB.size); clear h1; have c1 := B1.cellv kA; have c2 := B2.cellv kB)) | ((go_at_call 76; (with_reducible refine (CC.out _).mono ?_)); rintro e w1 ⟨rfl, h1⟩; replace B1 := B1.at_ h1; replace B2 := B2.at_ h1; replace hB := hB.trans (h1.mono hB.size); clear h1; have c1 := B1.cellv kA; have c2 := B2.cellv kB) | ((go_at_call 77; (with_reducible refine (OO.out _).mono ?_)); rintro e w1 ⟨rfl, h1⟩; replace B1 := B1.at_ h1; replace B2 := B2.at_ h1; replace hB := hB.trans (h1.mono hB.size); clear h1; have c1 := B1.cellv kA; have c2 := B2.cellv kB))
            go_ret
            exact ⟨rfl, hB⟩
          · rw [if_neg (by omega)] at hE
            subst hE
            go_enter Try.func45, Try.ntmps45
            go_wp2_with (first | ((refine wpList_load_blk (by rfl) 72 (.tmp 2) (by rfl) 0 (by rfl) (B1) (IA) whole_at _ Try.underlying72 (by rfl) hzA ?_; simp only [Act.put, List.setIfInBounds_toArray, List.set_cons_succ, List.set_cons_zero])) | ((refine wpList_load_blk (by rfl) 72 (.tmp 3) (by rfl) 0 (by rfl) (B2) (IB) whole_at _ Try.underlying72 (by rfl) hzB ?_; simp only [Act.put, List.setIfInBounds_toArray, List.set_cons_succ, List.set_cons_zero])) | (refine wpList_load_blk (by rfl) 25 (.tmp 14) (by rfl) (1) (by rfl) (B1) (labA p) (eA) _ Try.underlying25 (by rfl) hz1 ?_; simp only [Act.put, List.setIfInBounds_toArray, List.set_cons_succ, List.set_cons_zero]) | (refine wpList_load_blk (by rfl) 25 (.tmp 16) (by rfl) (1) (by rfl) (B2) (labA p') (eB) _ Try.underlying25 (by rfl) hz2 ?_; simp only [Act.put, List.setIfInBounds_toArray, List.set_cons_succ, List.set_cons_zero]) | (refine wpList_load_blk (by rfl) 25 (.tmp 30) (by rfl) (1) (by rfl) (B1) (labA p) (eA) _ Try.underlying25 (by rfl) hz1 ?_; simp only [Act.put, List.setIfInBounds_toArray, List.set_cons_succ, List.set_cons_zero]) | (refine wpList_load_blk (by rfl) 25 (.tmp 32) (by rfl) (1) (by rfl) (B2) (labA p') (eB) _ Try.underlying25 (by rfl) hz2 ?_; simp only [Act.put, List.setIfInBounds_toArray, List.set_cons_succ, List.set_cons_zero]) | (go_at_call 75; first | ((with_reducible refine (GA.out _).mono ?_); rintro e w1 ⟨rfl, h1⟩; replace B1 := B1.at_ h1; replace B2 := B2.at_ h1; replace hB := hB.trans (h1.mono hB.size); clear h1; have c1 := B1.cellv kA; have c2 := B2.cellv kB) | ((with_reducible refine (GB.out _).mono ?_); rintro e w1 ⟨rfl, h1⟩; replace B1 := B1.at_ h1; replace B2 := B2.at_ h1; replace hB := hB.trans (h1.mono hB.size); clear h1; have c1 := B1.cellv kA; have c2 := B2.cellv kB)) | ((go_at_call 76; (with_reducible refine (CC.out _).mono ?_)); rintro e w1 ⟨rfl, h1⟩; replace B1 := B1.at_ h1; replace B2 := B2.at_ h1; replace hB := hB.trans (h1.mono hB.size); clear h1; have c1 := B1.cellv kA; have c2 := B2.cellv kB) | ((go_at_call 77; (with_reducible refine (OO.out _).mono ?_)); rintro e w1 ⟨rfl, h1⟩; replace B1 := B1.at_ h1; replace B2 := B2.at_ h1; replace hB := hB.trans (h1.mono hB.size); clear h1; have c1 := B1.cellv kA; have c2 := B2.cellv kB))
            go_ret
            exact ⟨rfl, hB⟩
set_option maxRecDepth 100000 in
set_option maxHeartbeats 1000000 in
theorem rwrite_any (n : Nat) (p s : List UInt8) (t : Nat) (hn : n < 9223372036854775808) (ht : t < 9223372036854775808) (hp : p.length = 32) (hs : s.length = 32) (w : World) :
    Calls Try.prog 49 #[.agg (itemC n p s t).toArray] w fun e w' => e = .returned (.string ⟨(D.itemW n p s t).toArray⟩) ∧ Below w.heap.size w w' := by
  have EN := Lib.hid (fun W => rnum_any n hn W)
  have ET := Lib.hid (fun W => rnum_any t ht W)
  have LP := Lib.hid (fun W => rlab_any p hp W)
  have LS := Lib.hid (fun W => rlab_any s hs W)
  have l1 := D.numB_le9 n (by omega)
  have l2 := D.numB_le9 t (by omega)
  have sa1 := str_add (D.numB n) p (by omega)
  have sa2 := str_add (D.numB n ++ p) s (by rw [List.length_append]; omega)
  have sa3 := str_add (D.numB n ++ p ++ s) (D.numB t) (by rw [List.length_append, List.length_append]; omega)
  rw [show D.numB n ++ p ++ s ++ D.numB t = D.itemW n p s t from rfl] at sa3
  have B0 : Blk (w.alloc (.cells (itemC n p s t).toArray 72)) w.heap.size (itemC n p s t).toArray 72 := Blk.new _ _ _
  have hB := below_alloc1 w (.cells (itemC n p s t).toArray 72)
  go_enter Try.func49, Try.ntmps49
  go_wp2
  generalize w.alloc (.cells (itemC n p s t).toArray 72) = w0 at *
  have hlt : w.heap.size < w0.drew.heap.size := B0.lt
  have r1 : w0.drew.rangeAt w.heap.size 1 (p.map byteV) := blk_rangeL (o := 1) B0.drew (itemC_pre n p s t)
  have r2 : w0.drew.rangeAt w.heap.size 33 (s.map byteV) := blk_rangeL (o := 33) B0.drew (itemC_sum n p s t hp)
  have r3 : w0.drew.cell? ⟨w.heap.size, 65, none⟩ = some (.int .i64 t) := (B0.drew.cell 65).trans (by rw [List.getElem?_toArray]; exact itemC_at n p s t hp hs)
  have r0 : w0.drew.cell? ⟨w.heap.size, 0, none⟩ = some (.int .i64 n) := (B0.drew.cell 0).trans (by rw [List.getElem?_toArray]; rfl)
  have hc0 : ∀ W, Stp w0.drew W → W.cell? ⟨w.heap.size, 0, none⟩ = some (.int .i64 n) := fun W h => (Below.cell (p := ⟨w.heap.size, 0, none⟩) h hlt).trans r0
  have hc3 : ∀ W, Stp w0.drew W → W.cell? ⟨w.heap.size, 65, none⟩ = some (.int .i64 t) := fun W h => (Below.cell (p := ⟨w.heap.size, 65, none⟩) h hlt).trans r3
  clear r0 r3 B0 l1 l2
  generalize hR3 : (⟨(D.itemW n p s t).toArray⟩ : ByteArray) = R3 at *
  have HR3 := Lib.hid hR3
  clear hR3
  generalize (⟨(D.numB n ++ p ++ s).toArray⟩ : ByteArray) = R2 at *
  generalize (⟨(D.numB n ++ p).toArray⟩ : ByteArray) = R1 at *
  generalize (⟨(D.numB n).toArray⟩ : ByteArray) = EN1 at *
  generalize (⟨(D.numB t).toArray⟩ : ByteArray) = ET1 at *
  generalize (⟨p.toArray⟩ : ByteArray) = P at *
  generalize (⟨s.toArray⟩ : ByteArray) = S at *
  apply wp_region_rel_below [[(1, none)], [(3, some 0)], [(4, some 1)], [(1, none)], [(6, some 3)], [(7, some 4)], [(5, some 2), (8, some 5)], [(1, none)], [(10, some 7)], [(11, some 8)], [(9, some 6), (12, some 9)], [(1, none)], [(14, some 11)], [(15, some 12)], [(13, some 10), (16, some 13)], [(17, some 14)]] [eqv _, eqv _, eqv _, eqv _, eqv _, eqv _, eqv _, eqv _, eqv _, eqv _, eqv _, eqv _, eqv _, eqv _, eqv _, eqv _] (by kernel_rfl) (by kernel_rfl)
  case hobs =>
    refine ⟨?_, ?_⟩
    · rintro L a1 w1 hT - - ⟨h1, -⟩   -- 0: Op.fieldAddr 72 t1 0
      have e1 : a1.tmps.getD 1 undef = _ := h1
      have f1 := getD_form e1
      clear h1
      go_simp; exact left_intro rfl (Stp.refl _) trivial
    refine ⟨?_, ?_⟩
    · rintro L a1 w1 hT - - ⟨h3, -⟩   -- 1: Op.load 3 t3
      have e3 : a1.tmps.getD 3 undef = _ := h3
      have f3 := getD_form e3
      clear h3
      have c0 := hc0 w1 hT
      go_simp; exact left_intro rfl (Stp.refl _) trivial
    refine ⟨?_, ?_⟩
    · rintro L a1 w1 hT - - ⟨h4, -⟩   -- 2: Op.call { value (Operand.func 68), args := #[t4], argTypes := #[3] }
      have e4 : a1.tmps.getD 4 undef = _ := h4
      have f4 := getD_form e4
      clear h4
      go_simp; go_at_call 68; (with_reducible refine (EN.out _).mono ?_); rintro e w2 ⟨rfl, hb⟩; exact left_intro rfl (Stp.of hb) trivial
    refine ⟨?_, ?_⟩
    · rintro L a1 w1 hT - - ⟨h1, -⟩   -- 3: Op.fieldAddr 72 t1 1
      have e1 : a1.tmps.getD 1 undef = _ := h1
      have f1 := getD_form e1
      clear h1
      go_simp; exact left_intro rfl (Stp.refl _) trivial
    refine ⟨?_, ?_⟩
    · rintro L a1 w1 hT - - ⟨h6, -⟩   -- 4: Op.load 25 t6
      have e6 : a1.tmps.getD 6 undef = _ := h6
      have f6 := getD_form e6
      clear h6
      exact wp_load_labR (.tmp 6) rfl e6 (range_stp r1 hlt hT) hp (left_intro rfl (Stp.refl _) trivial)
    refine ⟨?_, ?_⟩
    · rintro L a1 w1 hT - - ⟨h7, -⟩   -- 5: Op.call { value (Operand.func 80), args := #[t7], argTypes := #[25] }
      have e7 : a1.tmps.getD 7 undef = _ := h7
      have f7 := getD_form e7
      clear h7
      go_simp; go_at_call 80; (with_reducible refine (LP.out _).mono ?_); rintro e w2 ⟨rfl, hb⟩; exact left_intro rfl (Stp.of hb) trivial
    refine ⟨?_, ?_⟩
    · rintro L a1 w1 hT - - ⟨h5, h8, -⟩   -- 6: Op.binOp BinOp.add 9 t5 t8 9
      have e5 : a1.tmps.getD 5 undef = _ := h5
      have f5 := getD_form e5
      have e8 : a1.tmps.getD 8 undef = _ := h8
      have f8 := getD_form e8
      clear h5 h8
      go_simp; exact left_intro rfl (Stp.refl _) trivial
    refine ⟨?_, ?_⟩
    · rintro L a1 w1 hT - - ⟨h1, -⟩   -- 7: Op.fieldAddr 72 t1 2
      have e1 : a1.tmps.getD 1 undef = _ := h1
      have f1 := getD_form e1
      clear h1
      go_simp; exact left_intro rfl (Stp.refl _) trivial
    refine ⟨?_, ?_⟩
    · rintro L a1 w1 hT - - ⟨h10, -⟩   -- 8: Op.load 25 t10
      have e10 : a1.tmps.getD 10 undef = _ := h10
      have f10 := getD_form e10
      clear h10
      exact wp_load_labR (.tmp 10) rfl e10 (range_stp r2 hlt hT) hs (left_intro rfl (Stp.refl _) trivial)
    refine ⟨?_, ?_⟩
    · rintro L a1 w1 hT - - ⟨h11, -⟩   -- 9: Op.call { value (Operand.func 80), args := #[t11], argTypes := #[25] }
      have e11 : a1.tmps.getD 11 undef = _ := h11
      have f11 := getD_form e11
      clear h11
      go_simp; go_at_call 80; (with_reducible refine (LS.out _).mono ?_); rintro e w2 ⟨rfl, hb⟩; exact left_intro rfl (Stp.of hb) trivial
    refine ⟨?_, ?_⟩
    · rintro L a1 w1 hT - - ⟨h9, h12, -⟩   -- 10: Op.binOp BinOp.add 9 t9 t12 9
      have e9 : a1.tmps.getD 9 undef = _ := h9
      have f9 := getD_form e9
      have e12 : a1.tmps.getD 12 undef = _ := h12
      have f12 := getD_form e12
      clear h9 h12
      go_simp; exact left_intro rfl (Stp.refl _) trivial
    refine ⟨?_, ?_⟩
    · rintro L a1 w1 hT - - ⟨h1, -⟩   -- 11: Op.fieldAddr 72 t1 3
      have e1 : a1.tmps.getD 1 undef = _ := h1
      have f1 := getD_form e1
      clear h1
      go_simp; exact left_intro rfl (Stp.refl _) trivial
    refine ⟨?_, ?_⟩
    · rintro L a1 w1 hT - - ⟨h14, -⟩   -- 12: Op.load 3 t14
      have e14 : a1.tmps.getD 14 undef = _ := h14
      have f14 := getD_form e14
      clear h14
      have c15 := hc3 w1 hT
      go_simp; exact left_intro rfl (Stp.refl _) trivial
    refine ⟨?_, ?_⟩
    · rintro L a1 w1 hT - - ⟨h15, -⟩   -- 13: Op.call { value (Operand.func 68), args := #[t15], argTypes := #[3] }
      have e15 : a1.tmps.getD 15 undef = _ := h15
      have f15 := getD_form e15
      clear h15
      go_simp; go_at_call 68; (with_reducible refine (ET.out _).mono ?_); rintro e w2 ⟨rfl, hb⟩; exact left_intro rfl (Stp.of hb) trivial
    refine ⟨?_, ?_⟩
    · rintro L a1 w1 hT - - ⟨h13, h16, -⟩   -- 14: Op.binOp BinOp.add 9 t13 t16 9
      have e13 : a1.tmps.getD 13 undef = _ := h13
      have f13 := getD_form e13
      have e16 : a1.tmps.getD 16 undef = _ := h16
      have f16 := getD_form e16
      clear h13 h16
      go_simp; exact left_intro rfl (Stp.refl _) trivial
    refine ⟨?_, ?_⟩
    · rintro L a1 w1 hT - - ⟨h17, -⟩   -- 15: Op.assign t17
      have e17 : a1.tmps.getD 17 undef = _ := h17
      have f17 := getD_form e17
      clear h17
      go_simp; exact left_intro rfl (Stp.refl _) trivial
    trivial
  case hmono => repeat (first | exact trivial | refine ⟨fun _ _ _ _ h => h, ?_⟩)
  case hend =>
    intro w2 hT
    rintro _ rfl _ rfl _ rfl _ rfl _ rfl _ rfl _ rfl _ rfl _ rfl _ rfl _ rfl _ rfl _ rfl _ rfl _ rfl _ rfl
    simp only [relEnd, Act.put, List.setIfInBounds_toArray, List.set_cons_succ, List.set_cons_zero]
    have hB2 := hB.trans (Below.mono hT hB.size)
    go_wp2
    go_ret
    exact ⟨by rw [HR3.out]; rfl, hB2⟩
set_option maxRecDepth 100000 in
set_option maxHeartbeats 1000000 in
theorem rleafW_any (l v : List UInt8) (t : Nat) (ht : t < 9223372036854775808) (hl : l.length = 32) (hv : v.length = 32) (w : World) :
    Calls Try.prog 50 #[.agg (leafC l v t).toArray] w fun e w' => e = .returned (.string ⟨(D.leafW l v t).toArray⟩) ∧ Below w.heap.size w w' := by
  have FF := Lib.hid (fun W => rflag_any false W)
  have ET := Lib.hid (fun W => rnum_any t ht W)
  have LP := Lib.hid (fun W => rlab_any l hl W)
  have LS := Lib.hid (fun W => rlab_any v hv W)
  have l1 : (D.flagB false).length = 1 := rfl
  have l2 := D.numB_le9 t (by omega)
  have sa1 := str_add (D.flagB false) l (by omega)
  have sa2 := str_add (D.flagB false ++ l) v (by rw [List.length_append]; omega)
  have sa3 := str_add (D.flagB false ++ l ++ v) (D.numB t) (by rw [List.length_append, List.length_append]; omega)
  rw [show D.flagB false ++ l ++ v ++ D.numB t = D.leafW l v t from rfl] at sa3
  have B0 : Blk (w.alloc (.cells (leafC l v t).toArray 77)) w.heap.size (leafC l v t).toArray 77 := Blk.new _ _ _
  have hB := below_alloc1 w (.cells (leafC l v t).toArray 77)
  go_enter Try.func50, Try.ntmps50
  go_wp2
  generalize w.alloc (.cells (leafC l v t).toArray 77) = w0 at *
  have hlt : w.heap.size < w0.drew.heap.size := B0.lt
  have r1 : w0.drew.rangeAt w.heap.size 0 (l.map byteV) := blk_rangeL (o := 0) B0.drew (fun j u h => by rw [Nat.zero_add]; exact leafC_lab l v t j u h)
  have r2 : w0.drew.rangeAt w.heap.size 32 (v.map byteV) := blk_rangeL (o := 32) B0.drew (leafC_val l v t hl)
  have r3 : w0.drew.cell? ⟨w.heap.size, 64, none⟩ = some (.int .i64 t) := (B0.drew.cell 64).trans (by rw [List.getElem?_toArray]; exact leafC_at l v t hl hv)
  have hc3 : ∀ W, Stp w0.drew W → W.cell? ⟨w.heap.size, 64, none⟩ = some (.int .i64 t) := fun W h => (Below.cell (p := ⟨w.heap.size, 64, none⟩) h hlt).trans r3
  clear r3 B0 l1 l2
  generalize hR3 : (⟨(D.leafW l v t).toArray⟩ : ByteArray) = R3 at *
  have HR3 := Lib.hid hR3
  clear hR3
  generalize (⟨(D.flagB false ++ l ++ v).toArray⟩ : ByteArray) = R2 at *
  generalize (⟨(D.flagB false ++ l).toArray⟩ : ByteArray) = R1 at *
  generalize (⟨(D.flagB false).toArray⟩ : ByteArray) = EN1 at *
  generalize (⟨(D.numB t).toArray⟩ : ByteArray) = ET1 at *
  generalize (⟨l.toArray⟩ : ByteArray) = P at *
  generalize (⟨v.toArray⟩ : ByteArray) = S at *
  apply wp_region_rel_below [[], [(1, none)], [(4, some 1)], [(5, some 2)], [(3, some 0), (6, some 3)], [(1, none)], [(8, some 5)], [(9, some 6)], [(7, some 4), (10, some 7)], [(1, none)], [(12, some 9)], [(13, some 10)], [(11, some 8), (14, some 11)], [(15, some 12)]] [eqv _, eqv _, eqv _, eqv _, eqv _, eqv _, eqv _, eqv _, eqv _, eqv _, eqv _, eqv _, eqv _, eqv _] (by kernel_rfl) (by kernel_rfl)
  case hobs =>
    refine ⟨?_, ?_⟩
    · rintro L a1 w1 hT - - -   -- 0: Op.call { value (Operand.func 48), args := #[const (Value.bool false)], argTypes := #[4] }
      go_simp; go_at_call 48; (with_reducible refine (FF.out _).mono ?_); rintro e w2 ⟨rfl, hb⟩; exact left_intro rfl (Stp.of hb) trivial
    refine ⟨?_, ?_⟩
    · rintro L a1 w1 hT - - ⟨h1, -⟩   -- 1: Op.fieldAddr 77 t1 0
      have e1 : a1.tmps.getD 1 undef = _ := h1
      have f1 := getD_form e1
      clear h1
      go_simp; exact left_intro rfl (Stp.refl _) trivial
    refine ⟨?_, ?_⟩
    · rintro L a1 w1 hT - - ⟨h4, -⟩   -- 2: Op.load 25 t4
      have e4 : a1.tmps.getD 4 undef = _ := h4
      have f4 := getD_form e4
      clear h4
      exact wp_load_labR (.tmp 4) rfl e4 (range_stp r1 hlt hT) hl (left_intro rfl (Stp.refl _) trivial)
    refine ⟨?_, ?_⟩
    · rintro L a1 w1 hT - - ⟨h5, -⟩   -- 3: Op.call { value (Operand.func 80), args := #[t5], argTypes := #[25] }
      have e5 : a1.tmps.getD 5 undef = _ := h5
      have f5 := getD_form e5
      clear h5
      go_simp; go_at_call 80; (with_reducible refine (LP.out _).mono ?_); rintro e w2 ⟨rfl, hb⟩; exact left_intro rfl (Stp.of hb) trivial
    refine ⟨?_, ?_⟩
    · rintro L a1 w1 hT - - ⟨h3, h6, -⟩   -- 4: Op.binOp BinOp.add 9 t3 t6 9
      have e3 : a1.tmps.getD 3 undef = _ := h3
      have f3 := getD_form e3
      have e6 : a1.tmps.getD 6 undef = _ := h6
      have f6 := getD_form e6
      clear h3 h6
      go_simp; exact left_intro rfl (Stp.refl _) trivial
    refine ⟨?_, ?_⟩
    · rintro L a1 w1 hT - - ⟨h1, -⟩   -- 5: Op.fieldAddr 77 t1 1
      have e1 : a1.tmps.getD 1 undef = _ := h1
      have f1 := getD_form e1
      clear h1
      go_simp; exact left_intro rfl (Stp.refl _) trivial
    refine ⟨?_, ?_⟩
    · rintro L a1 w1 hT - - ⟨h8, -⟩   -- 6: Op.load 25 t8
      have e8 : a1.tmps.getD 8 undef = _ := h8
      have f8 := getD_form e8
      clear h8
      exact wp_load_labR (.tmp 8) rfl e8 (range_stp r2 hlt hT) hv (left_intro rfl (Stp.refl _) trivial)
    refine ⟨?_, ?_⟩
    · rintro L a1 w1 hT - - ⟨h9, -⟩   -- 7: Op.call { value (Operand.func 80), args := #[t9], argTypes := #[25] }
      have e9 : a1.tmps.getD 9 undef = _ := h9
      have f9 := getD_form e9
      clear h9
      go_simp; go_at_call 80; (with_reducible refine (LS.out _).mono ?_); rintro e w2 ⟨rfl, hb⟩; exact left_intro rfl (Stp.of hb) trivial
    refine ⟨?_, ?_⟩
    · rintro L a1 w1 hT - - ⟨h7, h10, -⟩   -- 8: Op.binOp BinOp.add 9 t7 t10 9
      have e7 : a1.tmps.getD 7 undef = _ := h7
      have f7 := getD_form e7
      have e10 : a1.tmps.getD 10 undef = _ := h10
      have f10 := getD_form e10
      clear h7 h10
      go_simp; exact left_intro rfl (Stp.refl _) trivial
    refine ⟨?_, ?_⟩
    · rintro L a1 w1 hT - - ⟨h1, -⟩   -- 9: Op.fieldAddr 77 t1 2
      have e1 : a1.tmps.getD 1 undef = _ := h1
      have f1 := getD_form e1
      clear h1
      go_simp; exact left_intro rfl (Stp.refl _) trivial
    refine ⟨?_, ?_⟩
    · rintro L a1 w1 hT - - ⟨h12, -⟩   -- 10: Op.load 3 t12
      have e12 : a1.tmps.getD 12 undef = _ := h12
      have f12 := getD_form e12
      clear h12
      have c13 := hc3 w1 hT
      go_simp; exact left_intro rfl (Stp.refl _) trivial
    refine ⟨?_, ?_⟩
    · rintro L a1 w1 hT - - ⟨h13, -⟩   -- 11: Op.call { value (Operand.func 68), args := #[t13], argTypes := #[3] }
      have e13 : a1.tmps.getD 13 undef = _ := h13
      have f13 := getD_form e13
      clear h13
      go_simp; go_at_call 68; (with_reducible refine (ET.out _).mono ?_); rintro e w2 ⟨rfl, hb⟩; exact left_intro rfl (Stp.of hb) trivial
    refine ⟨?_, ?_⟩
    · rintro L a1 w1 hT - - ⟨h11, h14, -⟩   -- 12: Op.binOp BinOp.add 9 t11 t14 9
      have e11 : a1.tmps.getD 11 undef = _ := h11
      have f11 := getD_form e11
      have e14 : a1.tmps.getD 14 undef = _ := h14
      have f14 := getD_form e14
      clear h11 h14
      go_simp; exact left_intro rfl (Stp.refl _) trivial
    refine ⟨?_, ?_⟩
    · rintro L a1 w1 hT - - ⟨h15, -⟩   -- 13: Op.assign t15
      have e15 : a1.tmps.getD 15 undef = _ := h15
      have f15 := getD_form e15
      clear h15
      go_simp; exact left_intro rfl (Stp.refl _) trivial
    trivial
  case hmono => repeat (first | exact trivial | refine ⟨fun _ _ _ _ h => h, ?_⟩)
  case hend =>
    intro w2 hT
    rintro _ rfl _ rfl _ rfl _ rfl _ rfl _ rfl _ rfl _ rfl _ rfl _ rfl _ rfl _ rfl _ rfl _ rfl
    simp only [relEnd, Act.put, List.setIfInBounds_toArray, List.set_cons_succ, List.set_cons_zero]
    have hB2 := hB.trans (Below.mono hT hB.size)
    go_wp2
    go_ret
    exact ⟨by rw [HR3.out]; rfl, hB2⟩
end Go.Proofs.Ytgjmnhbkdccgpaa

/- From RdG. -/
namespace Go.Proofs.Ytgjmnhbkdccgpaa
open Go.RowKit

theorem zero_rleaf (w : World) : (Instr.build 77 #[]).run Try.prog w = .ok (.agg (leafC zlab zlab 0).toArray) w := by kernel_rfl
theorem zero_ritem (w : World) : (Instr.build 72 #[]).run Try.prog w = .ok (.agg (itemC 0 zlab zlab 0).toArray) w := by kernel_rfl
theorem four_new (w : World) (a b c d : Array Value) (s t u v : TypeId) : Blk ((((w.alloc (.cells a s)).alloc (.cells b t)).alloc (.cells c u)).alloc (.cells d v)) w.heap.size a s ∧ Blk ((((w.alloc (.cells a s)).alloc (.cells b t)).alloc (.cells c u)).alloc (.cells d v)) (w.heap.size + 1) b t ∧ Blk ((((w.alloc (.cells a s)).alloc (.cells b t)).alloc (.cells c u)).alloc (.cells d v)) (w.heap.size + 1 + 1) c u ∧ Blk ((((w.alloc (.cells a s)).alloc (.cells b t)).alloc (.cells c u)).alloc (.cells d v)) (w.heap.size + 1 + 1 + 1) d v ∧ Below w.heap.size w ((((w.alloc (.cells a s)).alloc (.cells b t)).alloc (.cells c u)).alloc (.cells d v)) := by
  obtain ⟨h0, h1, h2, h3⟩ := three_new w a b c s t u
  have h := Blk.new (((w.alloc (.cells a s)).alloc (.cells b t)).alloc (.cells c u)) d v
  rw [World.size_alloc, World.size_alloc, World.size_alloc] at h
  exact ⟨h0.alloc _, h1.alloc _, h2.alloc _, h, h3.alloc (by rw [World.size_alloc, World.size_alloc, World.size_alloc]; omega) _⟩
theorem leaf_sz (l v : List UInt8) (t : Int) (hl : l.length = 32) (hv : v.length = 32) : (Try.prog.info? 77).map (·.size) = some (leafC l v t).toArray.size := by rw [List.size_toArray, leafC_length l v t hl hv]; exact info_rleaf
theorem leaf_fit (l v : List UInt8) (t : Int) (l' v' : List UInt8) (t' : Int) (hl : l.length = 32) (hv : v.length = 32) (hl' : l'.length = 32) (hv' : v'.length = 32) : (leafC l v t).toArray.size = (leafC l' v' t').toArray.size := by rw [List.size_toArray, List.size_toArray, leafC_length l v t hl hv, leafC_length l' v' t' hl' hv']
theorem item_sz (n : Int) (l v : List UInt8) (t : Int) (hl : l.length = 32) (hv : v.length = 32) : (Try.prog.info? 72).map (·.size) = some (itemC n l v t).toArray.size := by rw [List.size_toArray, itemC_length n l v t hl hv]; exact info_ritem
theorem item_fit (n : Int) (l v : List UInt8) (t : Int) (n' : Int) (l' v' : List UInt8) (t' : Int) (hl : l.length = 32) (hv : v.length = 32) (hl' : l'.length = 32) (hv' : v'.length = 32) : (itemC n l v t).toArray.size = (itemC n' l' v' t').toArray.size := by rw [List.size_toArray, List.size_toArray, itemC_length n l v t hl hv, itemC_length n' l' v' t' hl' hv']
theorem cur_item {u v : World} {gC gX : Nat} {a b c x y z : Value} (D6 : Blk u gC #[a, b, c] 129) (h : gX ≠ gC) (o : Only gX (((u.setCell ⟨gC, 0, none⟩ x).setCell ⟨gC, 1, none⟩ y).setCell ⟨gC, 2, none⟩ z) v) : Blk v gC #[x, y, z] 129 ∧ (∀ g cs t, Blk u g cs t → g ≠ gC → g ≠ gX → Blk v g cs t) ∧ (∀ B X, B ≤ gC → B ≤ gX → Below B X u → Below B X v) := by
  obtain ⟨b0, o0⟩ := blk3 D6 x y z
  exact ⟨b0.only o (fun e => h e.symm), fun g cs t k h1 h2 => (k.only o0 h1).only o h2, fun B X h1 h2 k => o.below (o0.below k h1) h2⟩
theorem results_5 {P : Program} {w : World} {g0 g1 g2 : Nat} {t0 t1 t2 : TypeId} {fn : Func} {p0 p1 p2 p3 p4 : Tmp} {ty0 ty1 ty2 : TypeId} (hr : fn.results = #[.cell p0 ty0, .cell p1 ty1, .cell p2 ty2, .tmp p3, .tmp p4]) (tmps : Array Value) {C0 C1 C2 : Array Value} (h0 : Blk w g0 C0 t0) (h1 : Blk w g1 C1 t1) (h2 : Blk w g2 C2 t2) (d0 d1 d2 : TypeDesc) (v3 v4 : Value)
    (e0 : tmps.getD p0 undef = .pointer (some ⟨g0, 0, none⟩)) (e1 : tmps.getD p1 undef = .pointer (some ⟨g1, 0, none⟩)) (e2 : tmps.getD p2 undef = .pointer (some ⟨g2, 0, none⟩)) (e3 : tmps.getD p3 undef = v3) (e4 : tmps.getD p4 undef = v4)
    (hu0 : P.underlying ty0 = some d0) (hd0 : (match d0 with | .struct _ | .array _ _ => true | _ => false) = true) (hi0 : (P.info? ty0).map (·.size) = some C0.size)
    (hu1 : P.underlying ty1 = some d1) (hd1 : (match d1 with | .struct _ | .array _ _ => true | _ => false) = true) (hi1 : (P.info? ty1).map (·.size) = some C1.size)
    (hu2 : P.underlying ty2 = some d2) (hd2 : (match d2 with | .struct _ | .array _ _ => true | _ => false) = true) (hi2 : (P.info? ty2).map (·.size) = some C2.size) :
    (results fn tmps).run P w = .ok (.tuple #[.agg C0, .agg C1, .agg C2, v3, v4]) w := by
  have f0 : tmps[p0]?.getD undef = .pointer (some ⟨g0, 0, none⟩) := by simpa using e0
  have f1 : tmps[p1]?.getD undef = .pointer (some ⟨g1, 0, none⟩) := by simpa using e1
  have f2 : tmps[p2]?.getD undef = .pointer (some ⟨g2, 0, none⟩) := by simpa using e2
  have f3 : tmps[p3]?.getD undef = v3 := by simpa using e3
  have f4 : tmps[p4]?.getD undef = v4 := by simpa using e4
  simp [results, hr, f0, f1, f2, f3, f4, asAddr, run_loadVar_row w g0 t0 ty0 C0 (0, 0) d0 h0 hu0 hd0 hi0, run_loadVar_row w g1 t1 ty1 C1 (0, 0) d1 h1 hu1 hd1 hi1, run_loadVar_row w g2 t2 ty2 C2 (0, 0) d2 h2 hu2 hd2 hi2]
namespace D
theorem ritem_loc {s : List UInt8} {r : Rd} (h : r.loc ≤ s.length) : (ritem s r).2.loc ≤ s.length := number_loc (take_loc s _ 32 (take_loc s _ 32 (number_loc h)))
theorem rleaf_loc {s : List UInt8} {r : Rd} (h : r.loc ≤ s.length) : (rleaf s r).2.loc ≤ s.length := number_loc (take_loc s _ 32 (take_loc s _ 32 h))
def Nd.outL : Nd → List Value | .leaf l v t => leafC l v t | .inner _ _ => leafC zlab zlab 0
def Nd.outA : Nd → List Value | .leaf _ _ _ => itemC 0 zlab zlab 0 | .inner a _ => itemC a.1 a.2.1 a.2.2.1 a.2.2.2
def Nd.outB : Nd → List Value | .leaf _ _ _ => itemC 0 zlab zlab 0 | .inner _ b => itemC b.1 b.2.1 b.2.2.1 b.2.2.2
def Nd.isI : Nd → Bool | .leaf _ _ _ => false | .inner _ _ => true
/-- What the document's Read answers. -/
def rdOut (s : List UInt8) : Value := if rdErr s = 0 then .tuple #[.agg (rnode s).1.outL.toArray, .agg (rnode s).1.outA.toArray, .agg (rnode s).1.outB.toArray, .bool (rnode s).1.isI, .int .i64 0]
  else .tuple #[.agg (leafC zlab zlab 0).toArray, .agg (itemC 0 zlab zlab 0).toArray, .agg (itemC 0 zlab zlab 0).toArray, .bool false, .int .i64 (rdErr s)]
end D
end Go.Proofs.Ytgjmnhbkdccgpaa
