/- The walks of node.AsLeaf, AsInner, code.Reader.Flag and node.read. The walk of node.Read. -/
import Derived.Test.YtgjmnhbkdccgpaaNAwake
import Derived.Test.YtgjmnhbkdccgpaaPureTake
import Derived.Test.YtgjmnhbkdccgpaaWRLab
import Derived.Test.YtgjmnhbkdccgpaaOpenN
namespace Go.Proofs.Ytgjmnhbkdccgpaa
open Go.RowKit

set_option maxRecDepth 100000 in
set_option maxHeartbeats 1000000 in
theorem asLeaf_gen (V : Value) (C : Array Value) (b : Bool) (hC : C.size = 65) (h1 : C.all (·.oneCell') = true) (hv : ∀ w, (Instr.typeAssert V 83 61 true).run Try.prog w = .ok (.tuple #[.agg C, .bool b]) w) (w : World) :
    Calls Try.prog 56 #[V] w fun e w' => e = .returned (.tuple #[.agg C, .bool b]) ∧ Below w.heap.size w w' := by
  have hzl := leafC_length zlab zlab 0 rfl rfl
  have hfit : 0 + C.size ≤ (leafC zlab zlab 0).toArray.size := by rw [hC, List.size_toArray, hzl]; decide
  have hsl : (Try.prog.info? 61).map (·.size) = some C.size := by rw [hC]; exact info_leaf
  have hsp := splice_all (leafC zlab zlab 0).toArray C (by rw [hC, List.size_toArray, hzl])
  have B0 := (Blk.new w (leafC zlab zlab 0).toArray 61).alloc (.cells (leafC zlab zlab 0).toArray 61)
  have B1 := blk_new1 w (.cells (leafC zlab zlab 0).toArray 61) (leafC zlab zlab 0).toArray 61
  have hB := (below_alloc1 w (.cells (leafC zlab zlab 0).toArray 61)).alloc (o := .cells (leafC zlab zlab 0).toArray 61) (by simp)
  have n01 : w.heap.size ≠ w.heap.size + 1 := by omega
  go_enter Try.func56, Try.ntmps56
  go_wp2_with (first | (refine wpList_fresh (by rfl) 61 (by rfl) _ fresh_leaf ?_; simp only [Act.put, List.setIfInBounds_toArray, List.set_cons_succ, List.set_cons_zero]; try simp only [World.size_alloc]) | (refine wpList_assert (by rfl) (.tmp 7) _ _ _ (by rfl) V (by rfl) _ hv ?_; simp only [Act.put, List.setIfInBounds_toArray, List.set_cons_succ, List.set_cons_zero]) | ((refine wpList_store_blk (by rfl) 61 (.tmp 4) (.tmp 9) (by rfl) (0) (C) (by rfl) (by rfl) (B1) (hfit) hsl (h1) ?_; simp only [Act.put]); intro w1 b1 o1; rw [hsp] at b1; have c0 := B0.only o1 n01; have hB1 := o1.below hB (by omega)) | (refine wpList_load_blk (by rfl) 61 (.tmp 4) (by rfl) 0 (by rfl) (b1) (C) whole_at _ Try.underlying61 (by rfl) hsl ?_; simp only [Act.put, List.setIfInBounds_toArray, List.set_cons_succ, List.set_cons_zero]) | ((refine wpList_store_blk (by rfl) 61 (.tmp 2) (.tmp 11) (by rfl) (0) (C) (by rfl) (by rfl) (c0) (hfit) hsl (h1) ?_; simp only [Act.put]); intro w2 b2 o2; rw [hsp] at b2; have hB2 := o2.below hB1 (Nat.le_refl _)))
  exact bodyPost_ret (v := .tuple #[.agg C, .bool b]) (results_blk2 (by rfl) _ b2 _ _ (by rfl) (by rfl) Try.underlying61 (by rfl) hsl) rfl ⟨rfl, hB2⟩
set_option maxRecDepth 100000 in
set_option maxHeartbeats 1000000 in
theorem asInner_gen (V : Value) (C : Array Value) (b : Bool) (hC : C.size = 132) (h1 : C.all (·.oneCell') = true) (hv : ∀ w, (Instr.typeAssert V 83 69 true).run Try.prog w = .ok (.tuple #[.agg C, .bool b]) w) (w : World) :
    Calls Try.prog 57 #[V] w fun e w' => e = .returned (.tuple #[.agg C, .bool b]) ∧ Below w.heap.size w w' := by
  have hzl := innerC_size 0 zlab zlab 0 0 zlab zlab 0 rfl rfl rfl rfl
  have hfit : 0 + C.size ≤ (innerC 0 zlab zlab 0 0 zlab zlab 0).toArray.size := by rw [hC, hzl]; decide
  have hsl : (Try.prog.info? 69).map (·.size) = some C.size := by rw [hC]; exact info_inner
  have hsp := splice_all (innerC 0 zlab zlab 0 0 zlab zlab 0).toArray C (by rw [hC, hzl])
  have B0 := (Blk.new w (innerC 0 zlab zlab 0 0 zlab zlab 0).toArray 69).alloc (.cells (innerC 0 zlab zlab 0 0 zlab zlab 0).toArray 69)
  have B1 := blk_new1 w (.cells (innerC 0 zlab zlab 0 0 zlab zlab 0).toArray 69) (innerC 0 zlab zlab 0 0 zlab zlab 0).toArray 69
  have hB := (below_alloc1 w (.cells (innerC 0 zlab zlab 0 0 zlab zlab 0).toArray 69)).alloc (o := .cells (innerC 0 zlab zlab 0 0 zlab zlab 0).toArray 69) (by simp)
  have n01 : w.heap.size ≠ w.heap.size + 1 := by omega
  go_enter Try.func57, Try.ntmps57
  go_wp2_with (first | (refine wpList_fresh (by rfl) 69 (by rfl) _ fresh_inner ?_; simp only [Act.put, List.setIfInBounds_toArray, List.set_cons_succ, List.set_cons_zero]; try simp only [World.size_alloc]) | (refine wpList_assert (by rfl) (.tmp 7) _ _ _ (by rfl) V (by rfl) _ hv ?_; simp only [Act.put, List.setIfInBounds_toArray, List.set_cons_succ, List.set_cons_zero]) | ((refine wpList_store_blk (by rfl) 69 (.tmp 4) (.tmp 9) (by rfl) (0) (C) (by rfl) (by rfl) (B1) (hfit) hsl (h1) ?_; simp only [Act.put]); intro w1 b1 o1; rw [hsp] at b1; have c0 := B0.only o1 n01; have hB1 := o1.below hB (by omega)) | (refine wpList_load_blk (by rfl) 69 (.tmp 4) (by rfl) 0 (by rfl) (b1) (C) whole_at _ Try.underlying69 (by rfl) hsl ?_; simp only [Act.put, List.setIfInBounds_toArray, List.set_cons_succ, List.set_cons_zero]) | ((refine wpList_store_blk (by rfl) 69 (.tmp 2) (.tmp 11) (by rfl) (0) (C) (by rfl) (by rfl) (c0) (hfit) hsl (h1) ?_; simp only [Act.put]); intro w2 b2 o2; rw [hsp] at b2; have hB2 := o2.below hB1 (Nat.le_refl _)))
  exact bodyPost_ret (v := .tuple #[.agg C, .bool b]) (results_blk2 (by rfl) _ b2 _ _ (by rfl) (by rfl) Try.underlying69 (by rfl) hsl) rfl ⟨rfl, hB2⟩
/-- What node.AsLeaf and AsInner give of a node; of nil. -/
theorem asLeaf_leaf (l v : List UInt8) (t : Int) (hl : l.length = 32) (hv : v.length = 32) (w : World) : Calls Try.prog 56 #[.iface 61 (.agg (leafC l v t).toArray)] w fun e w' => e = .returned (.tuple #[.agg (leafC l v t).toArray, .bool true]) ∧ Below w.heap.size w w' :=
  asLeaf_gen _ _ true (by rw [List.size_toArray, leafC_length l v t hl hv]) (leafC_one l v t) (fun w => as61_yes _ w) w
theorem asLeaf_inner (V : Value) (w : World) : Calls Try.prog 56 #[.iface 69 V] w fun e w' => e = .returned (.tuple #[.agg (leafC zlab zlab 0).toArray, .bool false]) ∧ Below w.heap.size w w' :=
  asLeaf_gen _ _ false rfl (leafC_one _ _ _) (fun w => as61_no _ w) w
theorem asLeaf_nil (w : World) : Calls Try.prog 56 #[.nilIface] w fun e w' => e = .returned (.tuple #[.agg (leafC zlab zlab 0).toArray, .bool false]) ∧ Below w.heap.size w w' :=
  asLeaf_gen _ _ false rfl (leafC_one _ _ _) (fun w => as61_nil w) w
theorem asInner_inner (n : Int) (p s : List UInt8) (t : Int) (n' : Int) (p' s' : List UInt8) (t' : Int) (hp : p.length = 32) (hs : s.length = 32) (hp' : p'.length = 32) (hs' : s'.length = 32) (w : World) : Calls Try.prog 57 #[.iface 69 (.agg (innerC n p s t n' p' s' t').toArray)] w fun e w' => e = .returned (.tuple #[.agg (innerC n p s t n' p' s' t').toArray, .bool true]) ∧ Below w.heap.size w w' :=
  asInner_gen _ _ true (innerC_size _ _ _ _ _ _ _ _ hp hs hp' hs') (innerC_one _ _ _ _ _ _ _ _) (fun w => as69_yes _ w) w
theorem asInner_leaf (V : Value) (w : World) : Calls Try.prog 57 #[.iface 61 V] w fun e w' => e = .returned (.tuple #[.agg (innerC 0 zlab zlab 0 0 zlab zlab 0).toArray, .bool false]) ∧ Below w.heap.size w w' :=
  asInner_gen _ _ false rfl (innerC_one _ _ _ _ _ _ _ _) (fun w => as69_no _ w) w
theorem asInner_nil (w : World) : Calls Try.prog 57 #[.nilIface] w fun e w' => e = .returned (.tuple #[.agg (innerC 0 zlab zlab 0 0 zlab zlab 0).toArray, .bool false]) ∧ Below w.heap.size w w' :=
  asInner_gen _ _ false rfl (innerC_one _ _ _ _ _ _ _ _) (fun w => as69_nil w) w

theorem gtr_one (t : List UInt8) (w : World) : (Op.stringOp .gtr ⟨t.toArray⟩ ⟨#[1]⟩).run Try.prog w = .ok (.bool (D.gt1 t)) w := by
  have h : (!(Op.bytesLess t [1] || t == [1])) = D.gt1 t := by
    cases t with
    | nil => rfl
    | cons c l =>
      have e1 : Op.bytesLess l [] = false := by cases l <;> rfl
      have e2 : Op.bytesLess (c :: l) [1] = (decide (c < 1) || (c == 1 && Op.bytesLess l [])) := rfl
      have e3 : (c :: l == [1]) = (c == 1 && l.isEmpty) := by cases l <;> simp
      have e4 : decide (c < 1) = decide (c.toNat < 1) := by rw [Bool.eq_iff_iff, decide_eq_true_eq, decide_eq_true_eq]; exact UInt8.lt_iff_toNat_lt
      have e5 : (c == 1) = (c.toNat == 1) := by rw [Bool.eq_iff_iff, beq_iff_eq, beq_iff_eq]; exact ⟨fun h => by rw [h]; rfl, fun h => UInt8.toNat_inj.1 h⟩
      rw [e2, e1, e3, e4, e5]
      show _ = (decide (1 < c.toNat) || (c.toNat == 1 && !l.isEmpty))
      rcases Nat.lt_trichotomy c.toNat 1 with h0 | h0 | h0
      · have : c.toNat = 0 := by omega
        rw [this]; cases l.isEmpty <;> rfl
      · rw [h0]; cases l.isEmpty <;> rfl
      · have d1 : decide (c.toNat < 1) = false := by simp; omega
        have d2 : decide (1 < c.toNat) = true := by simp; omega
        have d3 : (c.toNat == 1) = false := by simp; omega
        rw [d1, d2, d3]; cases l.isEmpty <;> rfl
  unfold Op.stringOp
  simp only [str_list, show (⟨#[1]⟩ : ByteArray).toList = [1] from str_list [1], h]
  rfl
set_option maxRecDepth 100000 in
set_option maxHeartbeats 1000000 in
theorem rdflag_any (s : List UInt8) (hs : s.length ≤ 4611686018427387904) (r : D.Rd) (g : Nat) (w : World) (h : Rst w g s r) :
    Calls Try.prog 86 #[.pointer (some ⟨g, 0, none⟩)] w fun e w' => e = .returned (.bool (D.flag s r).1) ∧ Rst w' g s (D.flag s r).2 ∧ w.grownBy w' (some g) := by
  have h1 := fun w h => take_any s hs r 1 (by omega) g w h
  rw [show ((1 : Nat) : Int) = 1 from rfl] at h1
  have H1 := Lib.hid h1
  have h2 := fun W h => rfail_any s (D.take s r 1).2 4 g W h
  rw [show ((4 : Nat) : Int) = 4 from rfl] at h2
  have H2 := Lib.hid h2
  clear h1 h2
  have hF : D.flag s r = if D.gt1 (D.take s r 1).1 = true then (false, D.fail (D.take s r 1).2 4) else ((D.take s r 1).1 == [1], (D.take s r 1).2) := rfl
  have hgt : ∀ w, (binOp .gtr 9 (.string ⟨(D.take s r 1).1.toArray⟩) (.string ⟨#[1]⟩)).run Try.prog w = .ok (.bool (D.gt1 (D.take s r 1).1)) w := fun w => gtr_one (D.take s r 1).1 w
  generalize D.flag s r = F at *
  generalize D.take s r 1 = T at *
  cases hb : D.gt1 T.1 with
  | true =>
    rw [hb] at hgt hF
    rw [if_pos rfl] at hF
    subst hF
    clear hb
    go_enter Try.func86, Try.ntmps86
    go_wp2_with (first | (go_at_call 115; (with_reducible refine (H1.out _ h).mono ?_); rintro e w1 ⟨rfl, hr1, ho1⟩) | (go_at_call 116; (with_reducible refine (H2.out _ hr1).mono ?_); rintro e w2 ⟨rfl, hr2, ho2⟩))
    go_ret
    exact ⟨rfl, hr2, grown_then ho1.grown ho2.grown⟩
  | false =>
    rw [hb] at hgt hF
    rw [if_neg (by simp)] at hF
    subst hF
    clear hb
    go_enter Try.func86, Try.ntmps86
    go_wp2_with (first | (go_at_call 115; (with_reducible refine (H1.out _ h).mono ?_); rintro e w1 ⟨rfl, hr1, ho1⟩) | (go_at_call 116; (with_reducible refine (H2.out _ hr1).mono ?_); rintro e w2 ⟨rfl, hr2, ho2⟩))
    go_ret
    exact ⟨rfl, hr1, ho1.grown⟩
theorem build_pref2 (n : Int) (p : List UInt8) (hp : p.length = 32) (w : World) : (Instr.build 63 #[(0, .int .i64 n), (1, .agg (labA p))]).run Try.prog w = .ok (.agg (prefA n p)) w := by
  obtain ⟨a0, a1, a2, a3, a4, a5, a6, a7, a8, a9, a10, a11, a12, a13, a14, a15, a16, a17, a18, a19, a20, a21, a22, a23, a24, a25, a26, a27, a28, a29, a30, a31, rfl⟩ := lab32 p hp
  kernel_rfl
set_option maxRecDepth 100000 in
set_option maxHeartbeats 1000000 in
theorem nread_any (s : List UInt8) (hs : s.length ≤ 4611686018427387904) (r : D.Rd) (g : Nat) (w : World) (h : Rst w g s r) :
    Calls Try.prog 87 #[.pointer (some ⟨g, 0, none⟩)] w fun e w' => e = .returned (.agg (itemC (D.ritem s r).1.1 (D.ritem s r).1.2.1 (D.ritem s r).1.2.2.1 (D.ritem s r).1.2.2.2).toArray) ∧ Rst w' g s (D.ritem s r).2 ∧ w.grownBy w' (some g) := by
  have hN := fun W h => rnumber_any s hs r g W h
  have hP := fun W h => rlabel_any s hs (D.number s r).2 g W h
  have hM := fun W h => rlabel_any s hs (D.label s (D.number s r).2).2 g W h
  have hT := fun W h => rnumber_any s hs (D.label s (D.label s (D.number s r).2).2).2 g W h
  have hF : D.ritem s r = (((D.number s r).1, (D.label s (D.number s r).2).1, (D.label s (D.label s (D.number s r).2).2).1, (D.number s (D.label s (D.label s (D.number s r).2).2).2).1), (D.number s (D.label s (D.label s (D.number s r).2).2).2).2) := rfl
  have lp := D.label_len s (D.number s r).2
  have lm := D.label_len s (D.label s (D.number s r).2).2
  generalize D.ritem s r = F at *
  subst hF
  generalize D.number s (D.label s (D.label s (D.number s r).2).2).2 = x4 at *
  generalize D.label s (D.label s (D.number s r).2).2 = x3 at *
  generalize D.label s (D.number s r).2 = x2 at *
  generalize D.number s r = x1 at *
  obtain ⟨n, r1⟩ := x1
  obtain ⟨p, r2⟩ := x2
  obtain ⟨m, r3⟩ := x3
  obtain ⟨t, r4⟩ := x4
  dsimp only at *
  have HN := Lib.hid hN
  have HP := Lib.hid hP
  have HM := Lib.hid hM
  have HT := Lib.hid hT
  clear hN hP hM hT
  have hlt := h.blk.lt
  have B0 := Blk.new w (itemC 0 zlab zlab 0).toArray 65
  have hr0 := h.below (below_alloc1 w (.cells (itemC 0 zlab zlab 0).toArray 65))
  have hg0 : w.grownBy (w.alloc (.cells (itemC 0 zlab zlab 0).toArray 65)) (some g) := below_grows (below_alloc1 w _)
  have hne : some w.heap.size ≠ some g := by intro e; injection e with e; omega
  have hsz : (Try.prog.info? 65).map (·.size) = some (itemC (n : Int) p m t).toArray.size := by rw [List.size_toArray, itemC_length (n : Int) p m t lp lm]; exact info_item
  have hsp := splice_all (itemC 0 zlab zlab 0).toArray (itemC (n : Int) p m t).toArray (by rw [List.size_toArray, List.size_toArray, itemC_length (n : Int) p m t lp lm, itemC_length 0 zlab zlab 0 rfl rfl])
  have hfit : 0 + (itemC (n : Int) p m t).toArray.size ≤ (itemC 0 zlab zlab 0).toArray.size := by rw [List.size_toArray, List.size_toArray, itemC_length (n : Int) p m t lp lm, itemC_length 0 zlab zlab 0 rfl rfl]; decide
  have h1 := itemC_one (n : Int) p m t
  have hb1 := build_pref2 (n : Int) p lp
  have hb2 := build_item (n : Int) t p m lp lm
  go_enter Try.func87, Try.ntmps87
  go_wp2_with (first | (refine wpList_fresh (by rfl) 65 (by rfl) _ fresh_item ?_; simp only [Act.put, List.setIfInBounds_toArray, List.set_cons_succ, List.set_cons_zero]; try simp only [World.size_alloc]) | (go_at_call 89; first | ((with_reducible refine (HN.out _ hr0).mono ?_); rintro e w1 ⟨rfl, hr1, hg1⟩; have B1 := B0.grown hg1 hne; replace hg1 := grown_then hg0 hg1) | ((with_reducible refine (HT.out _ hr3).mono ?_); rintro e w4 ⟨rfl, hr4, hg4⟩; have B4 := B3.grown hg4 hne; replace hg4 := grown_then hg3 hg4)) | (go_at_call 88; first | ((with_reducible refine (HP.out _ hr1).mono ?_); rintro e w2 ⟨rfl, hr2, hg2⟩; have B2 := B1.grown hg2 hne; replace hg2 := grown_then hg1 hg2) | ((with_reducible refine (HM.out _ hr2).mono ?_); rintro e w3 ⟨rfl, hr3, hg3⟩; have B3 := B2.grown hg3 hne; replace hg3 := grown_then hg2 hg3)) | (refine wpList_build (by rfl) 63 ([(0, .tmp 4), (1, .tmp 6)]) (by rfl) ([(0, .int .i64 n), (1, .agg (labA p))]) (by rfl) (.agg (prefA n p)) (hb1) ?_; simp only [Act.put, List.setIfInBounds_toArray, List.set_cons_succ, List.set_cons_zero]) | (refine wpList_build (by rfl) 65 ([(0, .tmp 7), (1, .tmp 9), (2, .tmp 11)]) (by rfl) ([(0, .agg (prefA n p)), (1, .agg (labA m)), (2, .int .i64 t)]) (by rfl) (.agg (itemC n p m t).toArray) (hb2) ?_; simp only [Act.put, List.setIfInBounds_toArray, List.set_cons_succ, List.set_cons_zero]) | ((refine wpList_store_blk (by rfl) 65 (.tmp 2) (.tmp 12) (by rfl) (0) ((itemC (n : Int) p m t).toArray) (by rfl) (by rfl) (B4) (hfit) hsz (h1) ?_; simp only [Act.put]); intro w5 b5 o5; rw [hsp] at b5))
  exact bodyPost_ret (v := .agg (itemC (n : Int) p m t).toArray) (results_blk (by rfl) _ b5 _ (by rfl) Try.underlying65 (by rfl) hsz) rfl ⟨rfl, hr4.only o5 (by omega), grown_only hg4 o5 (Nat.le_refl _)⟩
end Go.Proofs.Ytgjmnhbkdccgpaa
namespace Go.Proofs.Ytgjmnhbkdccgpaa
open Go.RowKit

namespace D
/-- A node. -/
inductive Nd where
  | leaf (l v : List UInt8) (t : Nat)
  | inner (a b : Nat × List UInt8 × List UInt8 × Nat)
def Nd.err : Nd → Int
  | .leaf _ _ t => leafE t
  | .inner a b => innerE a.1 a.2.1 a.2.2.2 b.1 b.2.1 b.2.2.2
def Nd.cells : Nd → Value
  | .leaf l v t => .iface 61 (.agg (leafC l v t).toArray)
  | .inner a b => .iface 69 (.agg (innerC a.1 a.2.1 a.2.2.1 a.2.2.2 b.1 b.2.1 b.2.2.1 b.2.2.2).toArray)
def Nd.text : Nd → List UInt8
  | .leaf l v t => flagW false ++ wLeaf (l, v, t)
  | .inner a b => flagW true ++ wItem a ++ wItem b
/-- What is read of bytes, before the end is looked at. -/
def rnode (s : List UInt8) : Nd × Rd :=
  if (flag s ⟨0, 0⟩).1 = true then (.inner (ritem s (flag s ⟨0, 0⟩).2).1 (ritem s (ritem s (flag s ⟨0, 0⟩).2).2).1, (ritem s (ritem s (flag s ⟨0, 0⟩).2).2).2)
  else (.leaf (rleaf s (flag s ⟨0, 0⟩).2).1.1 (rleaf s (flag s ⟨0, 0⟩).2).1.2.1 (rleaf s (flag s ⟨0, 0⟩).2).1.2.2, (rleaf s (flag s ⟨0, 0⟩).2).2)
/-- The error's number of bytes that are read as a node. -/
def rdErr (s : List UInt8) : Int := if done s (rnode s).2 = 0 then (rnode s).1.err else (done s (rnode s).2 : Nat)
def rdVal (s : List UInt8) : Value := if rdErr s = 0 then (rnode s).1.cells else .nilIface
theorem rnode_inv {s : List UInt8} (h : done s (rnode s).2 = 0) : s = (rnode s).1.text := by
  obtain ⟨he, hl⟩ := done_inv h
  have hR : rnode s = if (flag s ⟨0, 0⟩).1 = true then (.inner (ritem s (flag s ⟨0, 0⟩).2).1 (ritem s (ritem s (flag s ⟨0, 0⟩).2).2).1, (ritem s (ritem s (flag s ⟨0, 0⟩).2).2).2)
    else (.leaf (rleaf s (flag s ⟨0, 0⟩).2).1.1 (rleaf s (flag s ⟨0, 0⟩).2).1.2.1 (rleaf s (flag s ⟨0, 0⟩).2).1.2.2, (rleaf s (flag s ⟨0, 0⟩).2).2) := rfl
  generalize rnode s = N at *
  have a1 := fun h => flag_inv (s := s) (r := ⟨0, 0⟩) h
  have a2 := fun h => ritem_inv (s := s) (r := (flag s ⟨0, 0⟩).2) h
  have a3 := fun h => ritem_inv (s := s) (r := (ritem s (flag s ⟨0, 0⟩).2).2) h
  have b2 := fun h => rleaf_inv (s := s) (r := (flag s ⟨0, 0⟩).2) h
  generalize ritem s (ritem s (flag s ⟨0, 0⟩).2).2 = Y at *
  generalize ritem s (flag s ⟨0, 0⟩).2 = X at *
  generalize rleaf s (flag s ⟨0, 0⟩).2 = Z at *
  generalize flag s ⟨0, 0⟩ = F at *
  obtain ⟨f, r1⟩ := F
  dsimp only at *
  cases f with
  | true =>
    rw [if_pos rfl] at hR
    subst hR
    have k3 := a3 he
    have k2 := a2 k3.e0
    have k1 := a1 k2.e0
    exact at_all ((k1.trans k2).trans k3) hl
  | false =>
    rw [if_neg (by simp)] at hR
    subst hR
    have k2 := b2 he
    have k1 := a1 k2.e0
    exact at_all (k1.trans k2) hl
theorem leafE_vals (t : Int) : leafE t = 0 ∨ leafE t = 1 := by
  unfold leafE
  split
  · exact .inl rfl
  · exact .inr rfl
theorem innerE_vals (n : Int) (p : List UInt8) (t : Int) (n' : Int) (p' : List UInt8) (t' : Int) : innerE n p t n' p' t' = 0 ∨ innerE n p t n' p' t' = 1 ∨ innerE n p t n' p' t' = 3 := by
  unfold innerE
  split
  · split
    · exact .inr (.inr rfl)
    · exact .inl rfl
  · exact .inr (.inl rfl)
end D
theorem wf_nat {n : Nat} (h : n < 9223372036854775808) : (Lit.int .i64 (n : Int)).wf = true := WalkArith.wf_i64 ⟨by omega, by omega⟩
theorem build_leafN (l v : List UInt8) (t : Int) (hl : l.length = 32) (hv : v.length = 32) (w : World) : (Instr.build 61 #[(0, .agg (labA l)), (1, .agg (labA v)), (2, .int .i64 t)]).run Try.prog w = .ok (.agg (leafC l v t).toArray) w := by
  obtain ⟨a0, a1, a2, a3, a4, a5, a6, a7, a8, a9, a10, a11, a12, a13, a14, a15, a16, a17, a18, a19, a20, a21, a22, a23, a24, a25, a26, a27, a28, a29, a30, a31, rfl⟩ := lab32 l hl
  obtain ⟨b0, b1, b2, b3, b4, b5, b6, b7, b8, b9, b10, b11, b12, b13, b14, b15, b16, b17, b18, b19, b20, b21, b22, b23, b24, b25, b26, b27, b28, b29, b30, b31, rfl⟩ := lab32 v hv
  kernel_rfl
set_option maxRecDepth 100000 in
set_option maxHeartbeats 2000000 in
theorem nodeRead_any (s : List UInt8) (hs : s.length ≤ 65536) (w : World) :
    Calls Try.prog 54 #[.string ⟨s.toArray⟩] w fun e w' => e = .returned (.tuple #[D.rdVal s, .int .i64 (D.rdErr s)]) ∧ Below w.heap.size w w' := by
  have HO := Lib.hid (ropen_any s hs w)
  have hs2 : s.length ≤ 4611686018427387904 := by omega
  have HF := Lib.hid (fun W h => rdflag_any s hs2 ⟨0, 0⟩ w.heap.size W h)
  have hV : D.rdVal s = if D.rdErr s = 0 then (D.rnode s).1.cells else .nilIface := rfl
  have hE : D.rdErr s = if D.done s (D.rnode s).2 = 0 then (D.rnode s).1.err else (D.done s (D.rnode s).2 : Nat) := rfl
  have hR : D.rnode s = if (D.flag s ⟨0, 0⟩).1 = true then (.inner (D.ritem s (D.flag s ⟨0, 0⟩).2).1 (D.ritem s (D.ritem s (D.flag s ⟨0, 0⟩).2).2).1, (D.ritem s (D.ritem s (D.flag s ⟨0, 0⟩).2).2).2)
    else (.leaf (D.rleaf s (D.flag s ⟨0, 0⟩).2).1.1 (D.rleaf s (D.flag s ⟨0, 0⟩).2).1.2.1 (D.rleaf s (D.flag s ⟨0, 0⟩).2).1.2.2, (D.rleaf s (D.flag s ⟨0, 0⟩).2).2) := rfl
  generalize D.rdVal s = V at *
  generalize D.rdErr s = E at *
  generalize D.rnode s = N at *
  generalize D.flag s ⟨0, 0⟩ = F at *
  obtain ⟨b, r1⟩ := F
  dsimp only at *
  cases b with
  | true =>
    rw [if_pos rfl] at hR
    subst hR
    dsimp only at *
    have hA := fun W h => nread_any s hs2 r1 w.heap.size W h
    have hB := fun W h => nread_any s hs2 (D.ritem s r1).2 w.heap.size W h
    have HD := Lib.hid (fun W h => rdone_any s (D.ritem s (D.ritem s r1).2).2 w.heap.size W h)
    have l1 : (D.ritem s r1).1.2.1.length = 32 := D.label_len _ _
    have l2 : (D.ritem s r1).1.2.2.1.length = 32 := D.label_len _ _
    have l3 : (D.ritem s (D.ritem s r1).2).1.2.1.length = 32 := D.label_len _ _
    have l4 : (D.ritem s (D.ritem s r1).2).1.2.2.1.length = 32 := D.label_len _ _
    have m1 : (D.ritem s r1).1.1 < 9223372036854775808 := D.number_lt _ _
    have m2 : (D.ritem s (D.ritem s r1).2).1.1 < 9223372036854775808 := D.number_lt _ _
    generalize D.ritem s (D.ritem s r1).2 = Y at *
    generalize D.ritem s r1 = X at *
    obtain ⟨⟨n, p, m, t⟩, r2⟩ := X
    obtain ⟨⟨n', p', m', t'⟩, r3⟩ := Y
    dsimp only at *
    have HA := Lib.hid hA
    have HB := Lib.hid hB
    clear hA hB
    have CK := Lib.hid (fun W => chkInner_any (n : Int) p m t n' p' m' t' (wf_nat m1) (wf_nat m2) l1 l2 l3 l4 W)
    have hbd := build_inner (n : Int) t n' t' p m p' m' l1 l2 l3 l4
    clear m1 m2 l1 l2 l3 l4
    generalize hd : D.done s r3 = d at *
    by_cases hd0 : d = 0
    · subst hd0
      rw [if_pos rfl] at hE
      have hEv := D.innerE_vals (n : Int) p t n' p' t'
      have hE' : E = D.innerE (n : Int) p t n' p' t' := hE
      have hV' : V = if E = 0 then .iface 69 (.agg (innerC (n : Int) p m t n' p' m' t').toArray) else .nilIface := hV
      clear hE hV
      generalize D.innerE (n : Int) p t n' p' t' = c at *
      subst hE'
      generalize (innerC (n : Int) p m t n' p' m' t').toArray = CI at *
      generalize (itemC (n : Int) p m t).toArray = IA at *
      generalize (itemC (n' : Int) p' m' t').toArray = IB at *
      rcases hEv with rfl | rfl | rfl
      · rw [if_pos rfl] at hV'
        subst hV'
        go_enter Try.func54, Try.ntmps54
        go_wp2_with (first | (go_at_call 85; (with_reducible refine (HO.out).mono ?_); rintro e w1 ⟨rfl, s1, hb, -⟩) | (go_at_call 86; (with_reducible refine (HF.out _ s1).mono ?_); rintro e w2 ⟨rfl, s2, g2⟩; replace hb := below_grown hb hb.size g2 (by intro j hj; cases hj; omega); clear g2) | (go_at_call 87; first | ((with_reducible refine (HA.out _ s2).mono ?_); rintro e w3 ⟨rfl, s3, g3⟩; replace hb := below_grown hb hb.size g3 (by intro j hj; cases hj; omega); clear g3) | ((with_reducible refine (HB.out _ s3).mono ?_); rintro e w4 ⟨rfl, s9, g4⟩; replace hb := below_grown hb hb.size g4 (by intro j hj; cases hj; omega); clear g4)) | (refine wpList_build (by rfl) 69 ([(0, .tmp 13), (1, .tmp 15)]) (by rfl) ([(0, .agg IA), (1, .agg IB)]) (by rfl) (.agg CI) (hbd) ?_; simp only [Act.put, List.setIfInBounds_toArray, List.set_cons_succ, List.set_cons_zero]) | (go_at_call 90; (with_reducible refine (HD.out _ s9).mono ?_); rintro e w5 ⟨rfl, nd, rfl⟩; replace hb := below_drewN hb nd; try rw [hd]) | (go_at_call 69; (with_reducible refine (CK.out _).mono ?_); rintro e w6 ⟨rfl, h6⟩; replace hb := hb.trans (h6.mono hb.size)))
        go_ret2
        exact ⟨rfl, hb⟩
      · rw [if_neg (by decide)] at hV'
        subst hV'
        go_enter Try.func54, Try.ntmps54
        go_wp2_with (first | (go_at_call 85; (with_reducible refine (HO.out).mono ?_); rintro e w1 ⟨rfl, s1, hb, -⟩) | (go_at_call 86; (with_reducible refine (HF.out _ s1).mono ?_); rintro e w2 ⟨rfl, s2, g2⟩; replace hb := below_grown hb hb.size g2 (by intro j hj; cases hj; omega); clear g2) | (go_at_call 87; first | ((with_reducible refine (HA.out _ s2).mono ?_); rintro e w3 ⟨rfl, s3, g3⟩; replace hb := below_grown hb hb.size g3 (by intro j hj; cases hj; omega); clear g3) | ((with_reducible refine (HB.out _ s3).mono ?_); rintro e w4 ⟨rfl, s9, g4⟩; replace hb := below_grown hb hb.size g4 (by intro j hj; cases hj; omega); clear g4)) | (refine wpList_build (by rfl) 69 ([(0, .tmp 13), (1, .tmp 15)]) (by rfl) ([(0, .agg IA), (1, .agg IB)]) (by rfl) (.agg CI) (hbd) ?_; simp only [Act.put, List.setIfInBounds_toArray, List.set_cons_succ, List.set_cons_zero]) | (go_at_call 90; (with_reducible refine (HD.out _ s9).mono ?_); rintro e w5 ⟨rfl, nd, rfl⟩; replace hb := below_drewN hb nd; try rw [hd]) | (go_at_call 69; (with_reducible refine (CK.out _).mono ?_); rintro e w6 ⟨rfl, h6⟩; replace hb := hb.trans (h6.mono hb.size)))
        go_ret2
        exact ⟨rfl, hb⟩
      · rw [if_neg (by decide)] at hV'
        subst hV'
        go_enter Try.func54, Try.ntmps54
        go_wp2_with (first | (go_at_call 85; (with_reducible refine (HO.out).mono ?_); rintro e w1 ⟨rfl, s1, hb, -⟩) | (go_at_call 86; (with_reducible refine (HF.out _ s1).mono ?_); rintro e w2 ⟨rfl, s2, g2⟩; replace hb := below_grown hb hb.size g2 (by intro j hj; cases hj; omega); clear g2) | (go_at_call 87; first | ((with_reducible refine (HA.out _ s2).mono ?_); rintro e w3 ⟨rfl, s3, g3⟩; replace hb := below_grown hb hb.size g3 (by intro j hj; cases hj; omega); clear g3) | ((with_reducible refine (HB.out _ s3).mono ?_); rintro e w4 ⟨rfl, s9, g4⟩; replace hb := below_grown hb hb.size g4 (by intro j hj; cases hj; omega); clear g4)) | (refine wpList_build (by rfl) 69 ([(0, .tmp 13), (1, .tmp 15)]) (by rfl) ([(0, .agg IA), (1, .agg IB)]) (by rfl) (.agg CI) (hbd) ?_; simp only [Act.put, List.setIfInBounds_toArray, List.set_cons_succ, List.set_cons_zero]) | (go_at_call 90; (with_reducible refine (HD.out _ s9).mono ?_); rintro e w5 ⟨rfl, nd, rfl⟩; replace hb := below_drewN hb nd; try rw [hd]) | (go_at_call 69; (with_reducible refine (CK.out _).mono ?_); rintro e w6 ⟨rfl, h6⟩; replace hb := hb.trans (h6.mono hb.size)))
        go_ret2
        exact ⟨rfl, hb⟩
    · rw [if_neg hd0] at hE
      rw [hE, if_neg (by omega)] at hV
      subst hE hV
      have d1 : ((d : Int) == 0) = false := by rw [beq_eq_false_iff_ne]; omega
      generalize (innerC (n : Int) p m t n' p' m' t').toArray = CI at *
      generalize (itemC (n : Int) p m t).toArray = IA at *
      generalize (itemC (n' : Int) p' m' t').toArray = IB at *
      go_enter Try.func54, Try.ntmps54
      go_wp2_with (first | (go_at_call 85; (with_reducible refine (HO.out).mono ?_); rintro e w1 ⟨rfl, s1, hb, -⟩) | (go_at_call 86; (with_reducible refine (HF.out _ s1).mono ?_); rintro e w2 ⟨rfl, s2, g2⟩; replace hb := below_grown hb hb.size g2 (by intro j hj; cases hj; omega); clear g2) | (go_at_call 87; first | ((with_reducible refine (HA.out _ s2).mono ?_); rintro e w3 ⟨rfl, s3, g3⟩; replace hb := below_grown hb hb.size g3 (by intro j hj; cases hj; omega); clear g3) | ((with_reducible refine (HB.out _ s3).mono ?_); rintro e w4 ⟨rfl, s9, g4⟩; replace hb := below_grown hb hb.size g4 (by intro j hj; cases hj; omega); clear g4)) | (refine wpList_build (by rfl) 69 ([(0, .tmp 13), (1, .tmp 15)]) (by rfl) ([(0, .agg IA), (1, .agg IB)]) (by rfl) (.agg CI) (hbd) ?_; simp only [Act.put, List.setIfInBounds_toArray, List.set_cons_succ, List.set_cons_zero]) | (go_at_call 90; (with_reducible refine (HD.out _ s9).mono ?_); rintro e w5 ⟨rfl, nd, rfl⟩; replace hb := below_drewN hb nd; try rw [hd]) | (go_at_call 69; (with_reducible refine (CK.out _).mono ?_); rintro e w6 ⟨rfl, h6⟩; replace hb := hb.trans (h6.mono hb.size)))
      go_ret2
      exact ⟨rfl, hb⟩
  | false =>
    rw [if_neg (by simp)] at hR
    subst hR
    dsimp only at *
    have hA := fun W h => rlabel_any s hs2 r1 w.heap.size W h
    have hB := fun W h => rlabel_any s hs2 (D.label s r1).2 w.heap.size W h
    have hC := fun W h => rnumber_any s hs2 (D.label s (D.label s r1).2).2 w.heap.size W h
    have HD := Lib.hid (fun W h => rdone_any s (D.number s (D.label s (D.label s r1).2).2).2 w.heap.size W h)
    have l1 : (D.label s r1).1.length = 32 := D.label_len _ _
    have l2 : (D.label s (D.label s r1).2).1.length = 32 := D.label_len _ _
    have hrl : D.rleaf s r1 = (((D.label s r1).1, (D.label s (D.label s r1).2).1, (D.number s (D.label s (D.label s r1).2).2).1), (D.number s (D.label s (D.label s r1).2).2).2) := rfl
    rw [hrl] at hE hV
    dsimp only at hE hV
    clear hrl
    generalize D.number s (D.label s (D.label s r1).2).2 = Z at *
    generalize D.label s (D.label s r1).2 = Y at *
    generalize D.label s r1 = X at *
    obtain ⟨l, r2⟩ := X
    obtain ⟨v, r3⟩ := Y
    obtain ⟨t, r4⟩ := Z
    dsimp only at *
    have HA := Lib.hid hA
    have HB := Lib.hid hB
    have HC := Lib.hid hC
    clear hA hB hC
    have CK := Lib.hid (fun W => chkLeaf_any l v (t : Int) l1 l2 W)
    have hbd := build_leafN l v (t : Int) l1 l2
    clear l1 l2
    generalize hd : D.done s r4 = d at *
    by_cases hd0 : d = 0
    · subst hd0
      rw [if_pos rfl] at hE
      have hEv := D.leafE_vals (t : Int)
      have hE' : E = D.leafE (t : Int) := hE
      have hV' : V = if E = 0 then .iface 61 (.agg (leafC l v (t : Int)).toArray) else .nilIface := hV
      clear hE hV
      generalize D.leafE (t : Int) = c at *
      subst hE'
      generalize (leafC l v (t : Int)).toArray = CL at *
      rcases hEv with rfl | rfl
      · rw [if_pos rfl] at hV'
        subst hV'
        go_enter Try.func54, Try.ntmps54
        go_wp2_with (first | (go_at_call 85; (with_reducible refine (HO.out).mono ?_); rintro e w1 ⟨rfl, s1, hb, -⟩) | (go_at_call 86; (with_reducible refine (HF.out _ s1).mono ?_); rintro e w2 ⟨rfl, s2, g2⟩; replace hb := below_grown hb hb.size g2 (by intro j hj; cases hj; omega); clear g2) | (go_at_call 88; first | ((with_reducible refine (HA.out _ s2).mono ?_); rintro e w3 ⟨rfl, s3, g3⟩; replace hb := below_grown hb hb.size g3 (by intro j hj; cases hj; omega); clear g3) | ((with_reducible refine (HB.out _ s3).mono ?_); rintro e w4 ⟨rfl, s4, g4⟩; replace hb := below_grown hb hb.size g4 (by intro j hj; cases hj; omega); clear g4)) | (go_at_call 89; (with_reducible refine (HC.out _ s4).mono ?_); rintro e w7 ⟨rfl, s9, g7⟩; replace hb := below_grown hb hb.size g7 (by intro j hj; cases hj; omega); clear g7) | (refine wpList_build (by rfl) 61 ([(0, .tmp 19), (1, .tmp 21), (2, .tmp 23)]) (by rfl) ([(0, .agg (labA l)), (1, .agg (labA v)), (2, .int .i64 t)]) (by rfl) (.agg CL) (hbd) ?_; simp only [Act.put, List.setIfInBounds_toArray, List.set_cons_succ, List.set_cons_zero]) | (go_at_call 90; (with_reducible refine (HD.out _ s9).mono ?_); rintro e w5 ⟨rfl, nd, rfl⟩; replace hb := below_drewN hb nd; try rw [hd]) | (go_at_call 69; (with_reducible refine (CK.out _).mono ?_); rintro e w6 ⟨rfl, h6⟩; replace hb := hb.trans (h6.mono hb.size)))
        go_ret2
        exact ⟨rfl, hb⟩
      · rw [if_neg (by decide)] at hV'
        subst hV'
        go_enter Try.func54, Try.ntmps54
        go_wp2_with (first | (go_at_call 85; (with_reducible refine (HO.out).mono ?_); rintro e w1 ⟨rfl, s1, hb, -⟩) | (go_at_call 86; (with_reducible refine (HF.out _ s1).mono ?_); rintro e w2 ⟨rfl, s2, g2⟩; replace hb := below_grown hb hb.size g2 (by intro j hj; cases hj; omega); clear g2) | (go_at_call 88; first | ((with_reducible refine (HA.out _ s2).mono ?_); rintro e w3 ⟨rfl, s3, g3⟩; replace hb := below_grown hb hb.size g3 (by intro j hj; cases hj; omega); clear g3) | ((with_reducible refine (HB.out _ s3).mono ?_); rintro e w4 ⟨rfl, s4, g4⟩; replace hb := below_grown hb hb.size g4 (by intro j hj; cases hj; omega); clear g4)) | (go_at_call 89; (with_reducible refine (HC.out _ s4).mono ?_); rintro e w7 ⟨rfl, s9, g7⟩; replace hb := below_grown hb hb.size g7 (by intro j hj; cases hj; omega); clear g7) | (refine wpList_build (by rfl) 61 ([(0, .tmp 19), (1, .tmp 21), (2, .tmp 23)]) (by rfl) ([(0, .agg (labA l)), (1, .agg (labA v)), (2, .int .i64 t)]) (by rfl) (.agg CL) (hbd) ?_; simp only [Act.put, List.setIfInBounds_toArray, List.set_cons_succ, List.set_cons_zero]) | (go_at_call 90; (with_reducible refine (HD.out _ s9).mono ?_); rintro e w5 ⟨rfl, nd, rfl⟩; replace hb := below_drewN hb nd; try rw [hd]) | (go_at_call 69; (with_reducible refine (CK.out _).mono ?_); rintro e w6 ⟨rfl, h6⟩; replace hb := hb.trans (h6.mono hb.size)))
        go_ret2
        exact ⟨rfl, hb⟩
    · rw [if_neg hd0] at hE
      rw [hE, if_neg (by omega)] at hV
      subst hE hV
      have d1 : ((d : Int) == 0) = false := by rw [beq_eq_false_iff_ne]; omega
      generalize (leafC l v (t : Int)).toArray = CL at *
      go_enter Try.func54, Try.ntmps54
      go_wp2_with (first | (go_at_call 85; (with_reducible refine (HO.out).mono ?_); rintro e w1 ⟨rfl, s1, hb, -⟩) | (go_at_call 86; (with_reducible refine (HF.out _ s1).mono ?_); rintro e w2 ⟨rfl, s2, g2⟩; replace hb := below_grown hb hb.size g2 (by intro j hj; cases hj; omega); clear g2) | (go_at_call 88; first | ((with_reducible refine (HA.out _ s2).mono ?_); rintro e w3 ⟨rfl, s3, g3⟩; replace hb := below_grown hb hb.size g3 (by intro j hj; cases hj; omega); clear g3) | ((with_reducible refine (HB.out _ s3).mono ?_); rintro e w4 ⟨rfl, s4, g4⟩; replace hb := below_grown hb hb.size g4 (by intro j hj; cases hj; omega); clear g4)) | (go_at_call 89; (with_reducible refine (HC.out _ s4).mono ?_); rintro e w7 ⟨rfl, s9, g7⟩; replace hb := below_grown hb hb.size g7 (by intro j hj; cases hj; omega); clear g7) | (refine wpList_build (by rfl) 61 ([(0, .tmp 19), (1, .tmp 21), (2, .tmp 23)]) (by rfl) ([(0, .agg (labA l)), (1, .agg (labA v)), (2, .int .i64 t)]) (by rfl) (.agg CL) (hbd) ?_; simp only [Act.put, List.setIfInBounds_toArray, List.set_cons_succ, List.set_cons_zero]) | (go_at_call 90; (with_reducible refine (HD.out _ s9).mono ?_); rintro e w5 ⟨rfl, nd, rfl⟩; replace hb := below_drewN hb nd; try rw [hd]) | (go_at_call 69; (with_reducible refine (CK.out _).mono ?_); rintro e w6 ⟨rfl, h6⟩; replace hb := hb.trans (h6.mono hb.size)))
      go_ret2
      exact ⟨rfl, hb⟩
end Go.Proofs.Ytgjmnhbkdccgpaa
