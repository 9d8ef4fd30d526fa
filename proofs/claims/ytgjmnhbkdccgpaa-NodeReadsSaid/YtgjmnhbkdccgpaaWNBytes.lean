/- The walks of code.Writer.Flag and of node.write. The walk of node.write. The walk of node.Bytes. -/
import Derived.Test.YtgjmnhbkdccgpaaWWLab
import Derived.Test.YtgjmnhbkdccgpaaWNGood
import Derived.Test.YtgjmnhbkdccgpaaWNumB
import Derived.Test.YtgjmnhbkdccgpaaWWText
import Derived.Test.YtgjmnhbkdccgpaaWNChk2
namespace Go.Proofs.Ytgjmnhbkdccgpaa
open Go.RowKit

namespace D
def flagB (b : Bool) : List UInt8 := [if b then 1 else 0]
/-- An item's bytes. -/
def itemW (n : Nat) (p s : List UInt8) (t : Nat) : List UInt8 := numB n ++ p ++ s ++ numB t
end D
theorem Wto.pre {w w0 w' : World} {g : Nat} {v v' : Value} (h0 : Below w.heap.size w w0) (ht : Wto w0 g v w' v') : Wto w g v w' v' := by
  have hs := h0.size
  refine ⟨⟨ht.kept.os.trans h0.os, ht.kept.tape.trans h0.tape, ht.kept.output.trans h0.output, Nat.le_trans hs ht.kept.size, fun k hk hg hr => (ht.kept.block k (by omega) hg hr).trans (h0.block k hk)⟩, ?_⟩
  rcases ht.row with e | ⟨k, hk, e⟩
  · exact .inl e
  · exact .inr ⟨k, by omega, e⟩
set_option maxRecDepth 100000 in
set_option maxHeartbeats 1000000 in
theorem wflag_any (b : Bool) (g : Nat) (v : Value) (xs : List UInt8) (w : World) (h : Wst w g v xs) (hx : xs.length ≤ 140737488355000) :
    Calls Try.prog 70 #[.pointer (some ⟨g, 0, none⟩), .bool b] w fun e w' => e = .returned (.tuple #[]) ∧ ∃ v', Wst w' g v' (xs ++ D.flagB b) ∧ Wto w g v w' v' := by
  have c0 := h.blk.cellv (i := 0) (v := v) rfl
  have f0 := h.blk.free 0
  cases b with
  | false =>
    have hkn : (((0 : UInt8)).toNat : Int) = 0 := rfl
    go_enter Try.func70, Try.ntmps70
    go_wp2_with (at_builtin; refine wpList_append_buf rfl (.tmp 10) (.tmp 12) 36 rfl Try.underlying36 rfl ((h.buf).alloc _) ⟨w.heap.size, 0, none⟩ 1 1 [(0 : UInt8)] rfl rfl (cells1 _ _ _ hkn _) (by omega) ?_; intro v1 w1 hb1 hg1 hr1; have bk1 := (((h.blk)).alloc _).grown hg1 (Ne.symm h.ne); have c1 := bk1.cellv (i := 0) (v := v) rfl; have f1 := bk1.free 0; obtain ⟨gr, cr, rfl⟩ := hb1.form_ne (by simp); simp only [List.length_append, List.length_cons, List.length_nil, Nat.zero_add] at hb1 hr1)
    obtain ⟨hw1, ht1⟩ := wst_append h hb1 (below_alloc1 _ _) hg1 hr1
    go_end0
    exact ⟨rfl, _, hw1, ht1⟩
  | true =>
    have hkn : (((1 : UInt8)).toNat : Int) = 1 := rfl
    go_enter Try.func70, Try.ntmps70
    go_wp2_with (at_builtin; refine wpList_append_buf rfl (.tmp 10) (.tmp 12) 36 rfl Try.underlying36 rfl ((h.buf).alloc _) ⟨w.heap.size, 0, none⟩ 1 1 [(1 : UInt8)] rfl rfl (cells1 _ _ _ hkn _) (by omega) ?_; intro v1 w1 hb1 hg1 hr1; have bk1 := (((h.blk)).alloc _).grown hg1 (Ne.symm h.ne); have c1 := bk1.cellv (i := 0) (v := v) rfl; have f1 := bk1.free 0; obtain ⟨gr, cr, rfl⟩ := hb1.form_ne (by simp); simp only [List.length_append, List.length_cons, List.length_nil, Nat.zero_add] at hb1 hr1)
    obtain ⟨hw1, ht1⟩ := wst_append h hb1 (below_alloc1 _ _) hg1 hr1
    go_end0
    exact ⟨rfl, _, hw1, ht1⟩
end Go.Proofs.Ytgjmnhbkdccgpaa
namespace Go.Proofs.Ytgjmnhbkdccgpaa
open Go.RowKit

set_option maxRecDepth 100000 in
set_option maxHeartbeats 1000000 in
theorem nwrite_any (n : Nat) (p s : List UInt8) (t : Nat) (hn : n < 9223372036854775808) (ht : t < 9223372036854775808) (hp : p.length = 32) (hs : s.length = 32) (g : Nat) (v : Value) (xs : List UInt8) (w : World) (h : Wst w g v xs) (hx : xs.length ≤ 100000) :
    Calls Try.prog 74 #[.pointer (some ⟨g, 0, none⟩), .agg (itemC n p s t).toArray] w fun e w' => e = .returned (.tuple #[]) ∧ ∃ v', Wst w' g v' (xs ++ D.itemW n p s t) ∧ Wto w g v w' v' := by
  have b0 := Blk.new w (itemC n p s t).toArray 65
  have hw0 := h.below (below_alloc1 w (.cells (itemC n p s t).toArray 65))
  have ht0 := Wto.pre (below_alloc1 w (.cells (itemC n p s t).toArray 65)) (Wto.refl _ g v)
  have hg : w.heap.size ≠ g := by have := h.blk.lt; omega
  have ho : v.ownBlock ≠ some w.heap.size := fun e => by have := h.buf.lt e; omega
  have f0 : (itemC n p s t).toArray[0]? = some (.int .i64 n) := rfl
  have f1 : ∀ j, j < (labA p).size → (itemC n p s t).toArray[1 + j]? = (labA p)[j]? := fun j hj => by
    rw [List.getElem?_toArray]
    have hj' : j < (p.map byteV).length := by rw [List.length_map]; rw [labA_size] at hj; exact hj
    rw [itemC_pre n p s t j _ (List.getElem?_eq_getElem hj')]
    unfold labA; rw [List.getElem?_toArray, List.getElem?_eq_getElem hj']
  have f2 : ∀ j, j < (labA s).size → (itemC n p s t).toArray[33 + j]? = (labA s)[j]? := fun j hj => by
    rw [List.getElem?_toArray]
    have hj' : j < (s.map byteV).length := by rw [List.length_map]; rw [labA_size] at hj; exact hj
    rw [itemC_sum n p s t hp j _ (List.getElem?_eq_getElem hj')]
    unfold labA; rw [List.getElem?_toArray, List.getElem?_eq_getElem hj']
  have f3 : (itemC n p s t).toArray[65]? = some (.int .i64 t) := by rw [List.getElem?_toArray]; exact itemC_at n p s t hp hs
  have hz1 := size_lab p hp
  have hz2 := size_lab s hs
  have hr : xs ++ D.itemW n p s t = xs ++ D.numB n ++ p ++ s ++ D.numB t := by unfold D.itemW; simp only [List.append_assoc]
  have hnl := D.numB_le9 n (by omega)
  have W1 := Lib.hid (fun v W h hx => number_any n hn g v xs W h hx)
  have W2 := Lib.hid (fun v W h hx => wlabel_any p hp g v (xs ++ D.numB n) W h hx)
  have W3 := Lib.hid (fun v W h hx => wlabel_any s hs g v (xs ++ D.numB n ++ p) W h hx)
  have W4 := Lib.hid (fun v W h hx => number_any t ht g v (xs ++ D.numB n ++ p ++ s) W h hx)
  have l1 : xs.length ≤ 140737488355000 := by omega
  have l2 : (xs ++ D.numB n).length ≤ 140737488355000 := by rw [List.length_append]; omega
  have l3 : (xs ++ D.numB n ++ p).length ≤ 140737488355000 := by rw [List.length_append, List.length_append]; omega
  have l4 : (xs ++ D.numB n ++ p ++ s).length ≤ 140737488355000 := by rw [List.length_append, List.length_append, List.length_append]; omega
  rw [hr]
  clear hr hnl hn ht hx
  generalize xs ++ D.numB n ++ p ++ s ++ D.numB t = x4 at *
  generalize xs ++ D.numB n ++ p ++ s = x3 at *
  generalize xs ++ D.numB n ++ p = x2 at *
  generalize xs ++ D.numB n = x1 at *
  generalize (itemC n p s t).toArray = C at *
  have k0 := b0.cellv f0
  go_enter Try.func74, Try.ntmps74
  go_wp2_with (first | (refine wpList_load_blk (by rfl) 25 (.tmp 11) (by rfl) (1) (by rfl) (b1) (labA p) (f1) _ Try.underlying25 (by rfl) hz1 ?_; simp only [Act.put, List.setIfInBounds_toArray, List.set_cons_succ, List.set_cons_zero]) | (refine wpList_load_blk (by rfl) 25 (.tmp 15) (by rfl) (33) (by rfl) (b2) (labA s) (f2) _ Try.underlying25 (by rfl) hz2 ?_; simp only [Act.put, List.setIfInBounds_toArray, List.set_cons_succ, List.set_cons_zero]) | ((go_at_call 72; first | ((with_reducible refine (W1.out _ _ hw0 l1).mono ?_); rintro e w1 ⟨rfl, v1, hw1, ht1⟩; have hl0 := b0.lt; have b1 := b0.wto ht1 hg ho; have ho1 := ht1.own_ne hl0 ho; replace ht1 := ht0.trans ht1) | ((with_reducible refine (W4.out _ _ hw3 l4).mono ?_); rintro e w4 ⟨rfl, v4, hw4, ht4⟩; replace ht4 := ht3.trans ht4))) | ((go_at_call 71; first | ((with_reducible refine (W2.out _ _ hw1 l2).mono ?_); rintro e w2 ⟨rfl, v2, hw2, ht2⟩; have hl1 := b1.lt; have b2 := b1.wto ht2 hg ho1; have ho2 := ht2.own_ne hl1 ho1; replace ht2 := ht1.trans ht2) | ((with_reducible refine (W3.out _ _ hw2 l3).mono ?_); rintro e w3 ⟨rfl, v3, hw3, ht3⟩; have b3 := b2.wto ht3 hg ho2; have k3 := b3.cellv f3; replace ht3 := ht2.trans ht3))))
  go_end0
  exact ⟨rfl, _, hw4, ht4⟩
end Go.Proofs.Ytgjmnhbkdccgpaa
namespace Go.Proofs.Ytgjmnhbkdccgpaa
open Go.RowKit

theorem Wst.only {w w' : World} {g b : Nat} {v : Value} {xs : List UInt8} (h : Wst w g v xs) (ho : Only b w w') (hg : g ≠ b) (hv : v.ownBlock ≠ some b) : Wst w' g v xs :=
  ⟨h.blk.only ho hg, h.buf.kept fun _ hk => ho.block _ fun e => hv (by rw [hk, e]), h.ne⟩
/-- A type assertion that cannot fail here. -/
theorem must69 (v : Value) (w : World) : (Instr.typeAssert (.iface 69 v) 83 69 false).run Try.prog w = .ok v w := by kernel_rfl

namespace D
def leafW (l v : List UInt8) (t : Nat) : List UInt8 := flagB false ++ l ++ v ++ numB t
/-- What node.Bytes gives of a leaf. -/
def leafO (l v : List UInt8) (t : Int) : List UInt8 := if leafE t = 0 then leafW l v t.toNat else []
def innerW (n : Nat) (p s : List UInt8) (t : Nat) (n' : Nat) (p' s' : List UInt8) (t' : Nat) : List UInt8 := flagB true ++ itemW n p s t ++ itemW n' p' s' t'
/-- What node.Bytes gives of two items. -/
def innerO (n : Int) (p s : List UInt8) (t : Int) (n' : Int) (p' s' : List UInt8) (t' : Int) : List UInt8 := if innerE n p t n' p' t' = 0 then innerW n.toNat p s t.toNat n'.toNat p' s' t'.toNat else []
theorem leafE_nat {t : Int} (h : leafE t = 0) : ∃ k : Nat, t = k ∧ k ≤ 1073741824 := by
  unfold leafE at h
  split at h
  · exact ⟨t.toNat, by omega, by omega⟩
  · cases h
theorem goodI_nat {n : Int} {p : List UInt8} {t : Int} (h : goodI n p t = true) : ∃ k m : Nat, n = k ∧ k ≤ 256 ∧ t = m ∧ m ≤ 1073741824 ∧ B.cut p k = p := by
  unfold goodI B.good at h
  simp only [Bool.and_eq_true, decide_eq_true_eq, beq_iff_eq] at h
  obtain ⟨⟨⟨⟨h1, h2⟩, h3⟩, h4⟩, h5⟩ := h
  exact ⟨n.toNat, t.toNat, by omega, by omega, by omega, by omega, h3⟩
theorem innerE_good {n : Int} {p : List UInt8} {t n' : Int} {p' : List UInt8} {t' : Int} (h : innerE n p t n' p' t' = 0) : goodI n p t = true ∧ goodI n' p' t' = true := by
  unfold innerE at h
  split at h
  · assumption
  · cases h
end D
set_option maxRecDepth 100000 in
set_option maxHeartbeats 2000000 in
theorem nbytesLeaf_any (l v : List UInt8) (t : Int) (hl : l.length = 32) (hv : v.length = 32) (w : World) :
    Calls Try.prog 44 #[.iface 61 (.agg (leafC l v t).toArray)] w fun e w' => e = .returned (.tuple #[.string ⟨(D.leafO l v t).toArray⟩, .int .i64 (D.leafE t)]) ∧ Below w.heap.size w w' := by
  have CK := Lib.hid (fun W => chkLeaf_any l v t hl hv W)
  by_cases hE : D.leafE t = 0
  · obtain ⟨k, rfl, hk⟩ := D.leafE_nat hE
    have hO : D.leafO l v (k : Int) = [] ++ D.flagB false ++ l ++ v ++ D.numB k := by unfold D.leafO; rw [if_pos hE]; rfl
    have hnl := D.numB_le9 k (by omega)
    have hfl : (D.flagB false).length = 1 := rfl
    rw [hE] at CK
    rw [hE, hO]
    clear hO hE
    have hsl : (Try.prog.info? 61).map (·.size) = some (leafC l v k).toArray.size := by rw [List.size_toArray, leafC_length l v k hl hv]; exact info_leaf
    have hfit : 0 + (leafC l v k).toArray.size ≤ (leafC zlab zlab 0).toArray.size := by rw [List.size_toArray, List.size_toArray, leafC_length l v k hl hv, leafC_length zlab zlab 0 rfl rfl]; decide
    have h64 : (leafC l v k).toArray[64]? = some (.int .i64 k) := by rw [List.getElem?_toArray]; exact leafC_at l v k hl hv
    have h1 := leafC_one l v k
    have hsp := splice_all (leafC zlab zlab 0).toArray (leafC l v k).toArray (by rw [List.size_toArray, List.size_toArray, leafC_length l v k hl hv, leafC_length zlab zlab 0 rfl rfl])
    have f1 : ∀ j, j < (labA l).size → (leafC l v k).toArray[0 + j]? = (labA l)[j]? := fun j hj => by
      have hj' : j < (l.map byteV).length := by rw [List.length_map]; rw [labA_size] at hj; exact hj
      rw [List.getElem?_toArray, Nat.zero_add, leafC_lab l v k j _ (List.getElem?_eq_getElem hj')]
      unfold labA; rw [List.getElem?_toArray, List.getElem?_eq_getElem hj']
    have f2 : ∀ j, j < (labA v).size → (leafC l v k).toArray[32 + j]? = (labA v)[j]? := fun j hj => by
      have hj' : j < (v.map byteV).length := by rw [List.length_map]; rw [labA_size] at hj; exact hj
      rw [List.getElem?_toArray, leafC_val l v k hl j _ (List.getElem?_eq_getElem hj')]
      unfold labA; rw [List.getElem?_toArray, List.getElem?_eq_getElem hj']
    have hz1 := size_lab l hl
    have hz2 := size_lab v hv
    have l0 : ([] : List UInt8).length ≤ 140737488355000 := by simp
    have l1 : ([] ++ D.flagB false).length ≤ 140737488355000 := by rw [List.length_append, hfl]; simp
    have l2 : ([] ++ D.flagB false ++ l).length ≤ 140737488355000 := by rw [List.length_append, List.length_append, hfl]; simp; omega
    have l3 : ([] ++ D.flagB false ++ l ++ v).length ≤ 140737488355000 := by rw [List.length_append, List.length_append, List.length_append, hfl]; simp; omega
    have l4 : ([] ++ D.flagB false ++ l ++ v ++ D.numB k).length ≤ 65536 := by rw [List.length_append, List.length_append, List.length_append, List.length_append, hfl]; simp; omega
    have W0 := Lib.hid (fun g u W h => wflag_any false g u [] W h l0)
    have W1 := Lib.hid (fun g u W h => wlabel_any l hl g u ([] ++ D.flagB false) W h l1)
    have W2 := Lib.hid (fun g u W h => wlabel_any v hv g u ([] ++ D.flagB false ++ l) W h l2)
    have W3 := Lib.hid (fun g u W h => number_any k (by omega) g u ([] ++ D.flagB false ++ l ++ v) W h l3)
    have W4 := Lib.hid (fun g u W h => wdone_any g u ([] ++ D.flagB false ++ l ++ v ++ D.numB k) W h l4)
    clear l0 l1 l2 l3 l4 hnl hfl
    generalize [] ++ D.flagB false ++ l ++ v ++ D.numB k = x4 at *
    generalize [] ++ D.flagB false ++ l ++ v = x3 at *
    generalize [] ++ D.flagB false ++ l = x2 at *
    generalize [] ++ D.flagB false = x1 at *
    generalize (leafC l v k).toArray = C at *
    go_enter Try.func44, Try.ntmps44
    go_wp2_with (first | ((go_at_call 69; (with_reducible refine (CK.out _).mono ?_)); rintro e w1 ⟨rfl, hb1⟩; have B1 := blk_new1 w1 (.cells #[.slice none 0 0, .int .i64 0] 111) (leafC zlab zlab 0).toArray 61; have s1 := (wst_new w1).below (below_alloc1 _ (.cells (leafC zlab zlab 0).toArray 61)); have hb2 := (hb1.alloc (o := .cells #[.slice none 0 0, .int .i64 0] 111) hb1.size).alloc (o := .cells (leafC zlab zlab 0).toArray 61) (by have := hb1.size; simp; omega)) | (refine wpList_assert (by rfl) (.tmp 15) _ _ _ (by rfl) (.iface 61 (.agg C)) (by rfl) _ (as61_yes _) ?_; simp only [Act.put, List.setIfInBounds_toArray, List.set_cons_succ, List.set_cons_zero]) | (refine wpList_fresh (by rfl) 61 (by rfl) _ fresh_leaf ?_; simp only [Act.put, List.setIfInBounds_toArray, List.set_cons_succ, List.set_cons_zero]; try simp only [World.size_alloc]) | ((refine wpList_store_blk (by rfl) 61 (.tmp 6) (.tmp 17) (by rfl) (0) (C) (by rfl) (by rfl) (B1) (hfit) hsl (h1) ?_; simp only [Act.put]); intro w2 b2 o2; rw [hsp] at b2; have s2 := s1.only o2 (by omega) (by simp [Value.ownBlock]); have hb3 := o2.below hb2 (by have := hb1.size; omega); have n2 : w1.heap.size + 1 ≠ w1.heap.size := by omega) | ((go_at_call 70; (with_reducible refine (W0.out _ _ _ s2).mono ?_)); rintro e w3 ⟨rfl, u3, s3, t3⟩; have b3 := b2.wto t3 n2 (by simp [Value.ownBlock]); have o3 := t3.own_ne b2.lt (by simp [Value.ownBlock])) | (refine wpList_load_blk (by rfl) 25 (.tmp 21) (by rfl) (0) (by rfl) (b3) (labA l) (f1) _ Try.underlying25 (by rfl) hz1 ?_; simp only [Act.put, List.setIfInBounds_toArray, List.set_cons_succ, List.set_cons_zero]) | (refine wpList_load_blk (by rfl) 25 (.tmp 24) (by rfl) (32) (by rfl) (b4) (labA v) (f2) _ Try.underlying25 (by rfl) hz2 ?_; simp only [Act.put, List.setIfInBounds_toArray, List.set_cons_succ, List.set_cons_zero]) | (go_at_call 71; first | ((with_reducible refine (W1.out _ _ _ s3).mono ?_); rintro e w4 ⟨rfl, u4, s4, t4⟩; have b4 := b3.wto t4 n2 o3; have o4 := t4.own_ne b3.lt o3; replace t4 := t3.trans t4) | ((with_reducible refine (W2.out _ _ _ s4).mono ?_); rintro e w5 ⟨rfl, u5, s5, t5⟩; have b5 := b4.wto t5 n2 o4; have k5 := b5.cellv h64; replace t5 := t4.trans t5)) | ((go_at_call 72; (with_reducible refine (W3.out _ _ _ s5).mono ?_)); rintro e w6 ⟨rfl, u6, s6, t6⟩; replace t6 := t5.trans t6) | ((go_at_call 73; (with_reducible refine (W4.out _ _ _ s6).mono ?_)); rintro e w7 ⟨rfl, rfl⟩))
    go_ret2
    exact ⟨rfl, t6.below hb3 hb3.size hb1.size (fun b _ e => by simp [Value.ownBlock] at e)⟩
  · have hO : D.leafO l v t = [] := by unfold D.leafO; rw [if_neg hE]
    rw [hO]
    clear hO
    have h1 : D.leafE t = 1 := by unfold D.leafE at hE ⊢; split at hE <;> simp_all
    rw [h1] at CK ⊢
    go_enter Try.func44, Try.ntmps44
    go_wp2_with ((go_at_call 69; (with_reducible refine (CK.out _).mono ?_)); rintro e w1 ⟨rfl, hb1⟩)
    go_ret2
    exact ⟨rfl, hb1⟩
set_option maxRecDepth 100000 in
set_option maxHeartbeats 2000000 in
theorem nbytesNil_any (w : World) : Calls Try.prog 44 #[.nilIface] w fun e w' => e = .returned (.tuple #[.string ⟨([] : List UInt8).toArray⟩, .int .i64 3]) ∧ Below w.heap.size w w' := by
  have CK := Lib.hid (fun W => chkNil_any W)
  go_enter Try.func44, Try.ntmps44
  go_wp2_with ((go_at_call 69; (with_reducible refine (CK.out _).mono ?_)); rintro e w1 ⟨rfl, hb1⟩)
  go_ret2
  exact ⟨rfl, hb1⟩
set_option maxRecDepth 100000 in
set_option maxHeartbeats 2000000 in
theorem nbytesInner_any (n : Int) (p s : List UInt8) (t : Int) (n' : Int) (p' s' : List UInt8) (t' : Int) (hn : (Lit.int .i64 n).wf = true) (hn' : (Lit.int .i64 n').wf = true) (hp : p.length = 32) (hs : s.length = 32) (hp' : p'.length = 32) (hs' : s'.length = 32) (w : World) :
    Calls Try.prog 44 #[.iface 69 (.agg (innerC n p s t n' p' s' t').toArray)] w fun e w' => e = .returned (.tuple #[.string ⟨(D.innerO n p s t n' p' s' t').toArray⟩, .int .i64 (D.innerE n p t n' p' t')]) ∧ Below w.heap.size w w' := by
  have CK := Lib.hid (fun W => chkInner_any n p s t n' p' s' t' hn hn' hp hs hp' hs' W)
  by_cases hE : D.innerE n p t n' p' t' = 0
  · obtain ⟨g1, g2⟩ := D.innerE_good hE
    obtain ⟨n, t, rfl, hn1, rfl, ht1, -⟩ := D.goodI_nat g1
    obtain ⟨n', t', rfl, hn1', rfl, ht1', -⟩ := D.goodI_nat g2
    clear g1 g2 hn hn'
    have hO : D.innerO (n : Int) p s t n' p' s' t' = [] ++ D.flagB true ++ D.itemW n p s t ++ D.itemW n' p' s' t' := by unfold D.innerO; rw [if_pos hE]; rfl
    have hnl1 := D.numB_le9 n (by omega)
    have hnl2 := D.numB_le9 t (by omega)
    have hnl3 := D.numB_le9 n' (by omega)
    have hnl4 := D.numB_le9 t' (by omega)
    have hi1 : (D.itemW n p s t).length ≤ 82 := by unfold D.itemW; simp; omega
    have hi2 : (D.itemW n' p' s' t').length ≤ 82 := by unfold D.itemW; simp; omega
    have hfl : (D.flagB true).length = 1 := rfl
    rw [hE] at CK
    rw [hE, hO]
    clear hO hE
    have hzz : (Try.prog.info? 61).map (·.size) = some (leafC zlab zlab 0).toArray.size := by rw [List.size_toArray, leafC_length zlab zlab 0 rfl rfl]; exact info_leaf
    have hz1 := leafC_one zlab zlab 0
    have hzf : 0 + (leafC zlab zlab 0).toArray.size ≤ (leafC zlab zlab 0).toArray.size := by omega
    have hszI := innerC_size (n : Int) p s t n' p' s' t' hp hs hp' hs'
    have hszZ := innerC_size 0 zlab zlab 0 0 zlab zlab 0 rfl rfl rfl rfl
    have hsl : (Try.prog.info? 69).map (·.size) = some (innerC (n : Int) p s t n' p' s' t').toArray.size := by rw [hszI]; exact info_inner
    have hfit : 0 + (innerC (n : Int) p s t n' p' s' t').toArray.size ≤ (innerC 0 zlab zlab 0 0 zlab zlab 0).toArray.size := by rw [hszI, hszZ]; decide
    have h1 := innerC_one (n : Int) p s t n' p' s' t'
    have hsp := splice_all (innerC 0 zlab zlab 0 0 zlab zlab 0).toArray (innerC (n : Int) p s t n' p' s' t').toArray (by rw [hszI, hszZ])
    have eA := innerC_itemL (n : Int) p s t n' p' s' t'
    have eB := innerC_itemR (n : Int) p s t n' p' s' t' hp hs
    have hzA : (Try.prog.info? 65).map (·.size) = some (itemC (n : Int) p s t).toArray.size := by rw [List.size_toArray, itemC_length (n : Int) p s t hp hs]; exact info_item
    have hzB : (Try.prog.info? 65).map (·.size) = some (itemC (n' : Int) p' s' t').toArray.size := by rw [List.size_toArray, itemC_length (n' : Int) p' s' t' hp' hs']; exact info_item
    have l0 : ([] : List UInt8).length ≤ 140737488355000 := by simp
    have l1 : ([] ++ D.flagB true).length ≤ 100000 := by rw [List.length_append, hfl]; simp
    have l2 : ([] ++ D.flagB true ++ D.itemW n p s t).length ≤ 100000 := by rw [List.length_append, List.length_append, hfl]; simp; omega
    have l3 : ([] ++ D.flagB true ++ D.itemW n p s t ++ D.itemW n' p' s' t').length ≤ 65536 := by rw [List.length_append, List.length_append, List.length_append, hfl]; simp; omega
    have W0 := Lib.hid (fun g u W h => wflag_any true g u [] W h l0)
    have W1 := Lib.hid (fun g u W h => nwrite_any n p s t (by omega) (by omega) hp hs g u ([] ++ D.flagB true) W h l1)
    have W2 := Lib.hid (fun g u W h => nwrite_any n' p' s' t' (by omega) (by omega) hp' hs' g u ([] ++ D.flagB true ++ D.itemW n p s t) W h l2)
    have W4 := Lib.hid (fun g u W h => wdone_any g u ([] ++ D.flagB true ++ D.itemW n p s t ++ D.itemW n' p' s' t') W h l3)
    clear l0 l1 l2 l3 hnl1 hnl2 hnl3 hnl4 hi1 hi2 hfl
    generalize [] ++ D.flagB true ++ D.itemW n p s t ++ D.itemW n' p' s' t' = x3 at *
    generalize [] ++ D.flagB true ++ D.itemW n p s t = x2 at *
    generalize [] ++ D.flagB true = x1 at *
    generalize (itemC (n : Int) p s t).toArray = IA at *
    generalize (itemC (n' : Int) p' s' t').toArray = IB at *
    generalize (innerC (n : Int) p s t n' p' s' t').toArray = C at *
    go_enter Try.func44, Try.ntmps44
    go_wp2_with (first | ((go_at_call 69; (with_reducible refine (CK.out _).mono ?_)); rintro e w1 ⟨rfl, hb1⟩; have A1 := blk_new1 w1 (.cells #[.slice none 0 0, .int .i64 0] 111) (leafC zlab zlab 0).toArray 61; have s1 := (wst_new w1).below (below_alloc1 _ (.cells (leafC zlab zlab 0).toArray 61)); have hb2 := (hb1.alloc (o := .cells #[.slice none 0 0, .int .i64 0] 111) hb1.size).alloc (o := .cells (leafC zlab zlab 0).toArray 61) (by have := hb1.size; simp; omega)) | (refine wpList_assert (by rfl) (.tmp 15) _ _ _ (by rfl) (.iface 69 (.agg C)) (by rfl) _ (as61_no _) ?_; simp only [Act.put, List.setIfInBounds_toArray, List.set_cons_succ, List.set_cons_zero]) | (refine wpList_assert (by rfl) (.tmp 33) _ _ _ (by rfl) (.iface 69 (.agg C)) (by rfl) _ (must69 _) ?_; simp only [Act.put, List.setIfInBounds_toArray, List.set_cons_succ, List.set_cons_zero]) | (refine wpList_fresh (by rfl) 61 (by rfl) _ fresh_leaf ?_; simp only [Act.put, List.setIfInBounds_toArray, List.set_cons_succ, List.set_cons_zero]; try simp only [World.size_alloc]) | ((refine wpList_store_blk (by rfl) 61 (.tmp 6) (.tmp 17) (by rfl) (0) ((leafC zlab zlab 0).toArray) (by rfl) (by rfl) (A1) (hzf) hzz (hz1) ?_; simp only [Act.put]); intro w2 a2 q2; have s2 := s1.only q2 (by omega) (by simp [Value.ownBlock]); have hb3 := q2.below hb2 (by have := hb1.size; omega); have n2 : w2.heap.size ≠ w1.heap.size := fun e => absurd (q2.size.symm.trans e) (by simp only [World.size_alloc]; omega); have B1 := Blk.new w2 (innerC 0 zlab zlab 0 0 zlab zlab 0).toArray 69; have s3 := s2.below (below_alloc1 _ (.cells (innerC 0 zlab zlab 0 0 zlab zlab 0).toArray 69)); have hb4 := hb3.alloc (o := .cells (innerC 0 zlab zlab 0 0 zlab zlab 0).toArray 69) hb3.size) | (refine wpList_fresh (by rfl) 69 (by rfl) _ fresh_inner ?_; simp only [Act.put, List.setIfInBounds_toArray, List.set_cons_succ, List.set_cons_zero]; try simp only [World.size_alloc]) | ((refine wpList_store_blk (by rfl) 69 (.tmp 8) (.tmp 34) (by rfl) (0) (C) (by rfl) (by rfl) (B1) (hfit) hsl (h1) ?_; simp only [Act.put]); intro w4 b4 o4; rw [hsp] at b4; have s4 := s3.only o4 (by omega) (by simp [Value.ownBlock]); have hb5 := o4.below hb4 hb3.size) | ((go_at_call 70; (with_reducible refine (W0.out _ _ _ s4).mono ?_)); rintro e w5 ⟨rfl, u5, s5, t5⟩; have b5 := b4.wto t5 n2 (by simp [Value.ownBlock]); have o5 := t5.own_ne b4.lt (by simp [Value.ownBlock])) | (refine wpList_load_blk (by rfl) 65 (.tmp 36) (by rfl) (0) (by rfl) (b5) (IA) (eA) _ Try.underlying65 (by rfl) hzA ?_; simp only [Act.put, List.setIfInBounds_toArray, List.set_cons_succ, List.set_cons_zero]) | (refine wpList_load_blk (by rfl) 65 (.tmp 39) (by rfl) (66) (by rfl) (b6) (IB) (eB) _ Try.underlying65 (by rfl) hzB ?_; simp only [Act.put, List.setIfInBounds_toArray, List.set_cons_succ, List.set_cons_zero]) | (go_at_call 74; first | ((with_reducible refine (W1.out _ _ _ s5).mono ?_); rintro e w6 ⟨rfl, u6, s6, t6⟩; have b6 := b5.wto t6 n2 o5; replace t6 := t5.trans t6) | ((with_reducible refine (W2.out _ _ _ s6).mono ?_); rintro e w7 ⟨rfl, u7, s7, t7⟩; replace t7 := t6.trans t7)) | ((go_at_call 73; (with_reducible refine (W4.out _ _ _ s7).mono ?_)); rintro e w8 ⟨rfl, rfl⟩))
    go_ret2
    exact ⟨rfl, t7.below hb5 hb5.size hb1.size (fun b _ e => by simp [Value.ownBlock] at e)⟩
  · have hO : D.innerO n p s t n' p' s' t' = [] := by unfold D.innerO; rw [if_neg hE]
    rw [hO]
    clear hO
    have h1 : D.innerE n p t n' p' t' = 1 ∨ D.innerE n p t n' p' t' = 3 := by
      unfold D.innerE at hE ⊢
      split at hE
      · split at hE
        · rename_i h h'; rw [if_pos h, if_pos h']; exact .inr rfl
        · exact absurd rfl hE
      · rename_i h; rw [if_neg h]; exact .inl rfl
    rcases h1 with h1 | h1 <;>
      (rw [h1] at CK ⊢
       go_enter Try.func44, Try.ntmps44
       go_wp2_with ((go_at_call 69; (with_reducible refine (CK.out _).mono ?_)); rintro e w1 ⟨rfl, hb1⟩)
       go_ret2
       exact ⟨rfl, hb1⟩)
end Go.Proofs.Ytgjmnhbkdccgpaa
