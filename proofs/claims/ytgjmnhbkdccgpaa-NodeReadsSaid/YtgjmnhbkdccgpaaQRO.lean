/- Texts merged. -/
import Derived.Test.YtgjmnhbkdccgpaaQRN
import Derived.Test.YtgjmnhbkdccgpaaQRdGLX
import Derived.Test.YtgjmnhbkdccgpaaQRdGLC
import Derived.Test.YtgjmnhbkdccgpaaQRdGLO
import Derived.Test.YtgjmnhbkdccgpaaQRM
import Derived.Test.YtgjmnhbkdccgpaaKit3
import Derived.Test.YtgjmnhbkdccgpaaRow
import Derived.Test.YtgjmnhbkdccgpaaNAwake

/- From RdH. -/
namespace Go.Proofs.Ytgjmnhbkdccgpaa
open Go.RowKit

theorem readD_any (s : List UInt8) (hs : s.length ≤ 65536) (w : World) :
    Calls Try.prog 55 #[.string ⟨s.toArray⟩] w fun e w' => e = .returned (D.rdOut s) ∧ Below w.heap.size w w' := by
  by_cases hf : (D.flag s ⟨0, 0⟩).1 = true
  · by_cases hd : D.done s (D.rnode s).2 = 0
    · by_cases hc : (D.rnode s).1.err = 0
      · exact readD_io s hs hf hd hc w
      · exact readD_ic s hs hf hd hc w
    · exact readD_ix s hs hf hd w
  · have hf : (D.flag s ⟨0, 0⟩).1 = false := by simpa using hf
    by_cases hd : D.done s (D.rnode s).2 = 0
    · by_cases hc : (D.rnode s).1.err = 0
      · exact readD_lo s hs hf hd hc w
      · exact readD_lc s hs hf hd hc w
    · exact readD_lx s hs hf hd w
end Go.Proofs.Ytgjmnhbkdccgpaa

/- From NBackW. -/
namespace Go.Proofs.Ytgjmnhbkdccgpaa
open Go.ChangeShapes Go.WideShapes Go.ChangeAt Go.RowKit

namespace D
theorem leaf_back (l v : List UInt8) (t : Nat) (hl : l.length = 32) (hv : v.length = 32) (ht : t < 9223372036854775808) : rnode (Nd.leaf l v t).text = (.leaf l v t, ⟨(Nd.leaf l v t).text.length, 0⟩) := by
  have e1 := flag_back [] (wLeaf (l, v, t)) false
  have e2 := rleaf_back (flagW false) [] l v t ht hl hv
  have hf : (flagW false).length = 1 := rfl
  rw [List.append_nil, hf] at e2
  rw [List.nil_append, List.length_nil, Nat.zero_add] at e1
  have hT : (Nd.leaf l v t).text = flagW false ++ wLeaf (l, v, t) := rfl
  have hw : wLeaf (l, v, t) = l ++ v ++ numB t := rfl
  have hlen : (Nd.leaf l v t).text.length = 1 + (l ++ v ++ numB t).length := by rw [hT, List.length_append, hf, hw]
  rw [hlen]
  rw [hT]
  unfold rnode
  rw [e1]
  show (if false = true then _ else _) = _
  rw [if_neg (by simp), hw, e2]
theorem inner_back (a b : Nat × List UInt8 × List UInt8 × Nat) (ha : a.1 < 9223372036854775808 ∧ a.2.1.length = 32 ∧ a.2.2.1.length = 32 ∧ a.2.2.2 < 9223372036854775808) (hb : b.1 < 9223372036854775808 ∧ b.2.1.length = 32 ∧ b.2.2.1.length = 32 ∧ b.2.2.2 < 9223372036854775808) :
    rnode (Nd.inner a b).text = (.inner a b, ⟨(Nd.inner a b).text.length, 0⟩) := by
  have e1 := flag_back [] (wItem a ++ wItem b) true
  have e2 := ritem_back (flagW true) (wItem b) a.1 a.2.1 a.2.2.1 a.2.2.2 ha.1 ha.2.2.2 ha.2.1 ha.2.2.1
  have e3 := ritem_back (flagW true ++ wItem a) [] b.1 b.2.1 b.2.2.1 b.2.2.2 hb.1 hb.2.2.2 hb.2.1 hb.2.2.1
  have hf : (flagW true).length = 1 := rfl
  rw [List.append_nil, List.length_append, hf] at e3
  rw [hf] at e2
  rw [List.nil_append, List.length_nil, Nat.zero_add] at e1
  have hA : wItem a = numB a.1 ++ a.2.1 ++ a.2.2.1 ++ numB a.2.2.2 := rfl
  have hB : wItem b = numB b.1 ++ b.2.1 ++ b.2.2.1 ++ numB b.2.2.2 := rfl
  rw [← hA] at e2
  rw [← hB] at e3
  have hT : (Nd.inner a b).text = flagW true ++ (wItem a ++ wItem b) := by
    show flagW true ++ wItem a ++ wItem b = _
    rw [List.append_assoc]
  have hT2 : flagW true ++ (wItem a ++ wItem b) = flagW true ++ wItem a ++ wItem b := by rw [List.append_assoc]
  have hlen : (Nd.inner a b).text.length = 1 + (wItem a).length + (wItem b).length := by rw [hT, List.length_append, List.length_append, hf, Nat.add_assoc]
  rw [hlen, hT]
  unfold rnode
  rw [e1]
  show (if true = true then _ else _) = _
  rw [if_pos rfl, e2]
  rw [← hT2] at e3
  rw [e3]
theorem rd_of {s : List UInt8} {N : Nd} (h : rnode s = (N, ⟨s.length, 0⟩)) (he : N.err = 0) : rdErr s = 0 ∧ rdVal s = N.cells := by
  have hE : rdErr s = 0 := by
    unfold rdErr
    rw [h, done_end, if_pos rfl]
    exact he
  refine ⟨hE, ?_⟩
  unfold rdVal
  rw [hE, if_pos rfl, h]
end D
theorem guard69' : Try.prog.eqGuardType Try.prog.depth 69 = false := by kernel_rfl
/-- Three boxes. -/
theorem box3b (w : World) (c0 c1 c2 : Array Value) (t0 t1 t2 : TypeId) : ∀ W, W = ((w.alloc (.cells c0 t0)).alloc (.cells c1 t1)).alloc (.cells c2 t2) →
    Blk W w.heap.size c0 t0 ∧ Blk W (w.heap.size + 1) c1 t1 ∧ Blk W (w.heap.size + 1 + 1) c2 t2 ∧ Below w.heap.size w W := by
  rintro W rfl
  have k1 := Blk.new (w.alloc (.cells c0 t0)) c1 t1
  have k2 := Blk.new ((w.alloc (.cells c0 t0)).alloc (.cells c1 t1)) c2 t2
  simp only [World.size_alloc] at k1 k2
  exact ⟨((Blk.new w c0 t0).alloc _).alloc _, k1.alloc _, k2,
    (((Below.refl w.heap.size w).alloc (Nat.le_refl _) _).alloc (by simp only [World.size_alloc]; omega) _).alloc (by simp only [World.size_alloc]; omega) _⟩
theorem lead_ne (a b : List UInt8) (x y : UInt8) (h : x ≠ y) : (x :: a == y :: b) = false := by
  rw [beq_eq_false_iff_ne]; intro e; injection e with e; exact h e
set_option maxRecDepth 100000 in
set_option maxHeartbeats 8000000 in
theorem nback_walk (l v : List UInt8) (i : Int) (n0 : Int) (p0 s0 : List UInt8) (t0 : Int) (n1 : Int) (p1 s1 : List UInt8) (t1 : Int) (hl : l.length = 32) (hv : v.length = 32) (hi : (Lit.int .i64 i).wf = true)
    (hn0 : (Lit.int .i64 n0).wf = true) (hp0 : p0.length = 32) (hs0 : s0.length = 32) (ht0 : (Lit.int .i64 t0).wf = true) (hn1 : (Lit.int .i64 n1).wf = true) (hp1 : p1.length = 32) (hs1 : s1.length = 32) (ht1 : (Lit.int .i64 t1).wf = true) (w : World) :
    Calls Try.prog 17 #[.agg (leafC l v i).toArray, .agg (itemC n0 p0 s0 t0).toArray, .agg (itemC n1 p1 s1 t1).toArray] w fun e w' => e = .returned (.bool true) ∧ Below w.heap.size w w' := by
  have BL := Lib.hid (fun W => nbytesLeaf_any l v i hl hv W)
  have BI := Lib.hid (fun W => nbytesInner_any n0 p0 s0 t0 n1 p1 s1 t1 hn0 hn1 hp0 hs0 hp1 hs1 W)
  have AA := Lib.hid (fun W => nawake_any W)
  have hz0 : (Try.prog.info? 61).map (·.size) = some (leafC l v i).toArray.size := by rw [List.size_toArray, leafC_length l v i hl hv]; exact info_leaf
  have hz1 : (Try.prog.info? 65).map (·.size) = some (itemC n0 p0 s0 t0).toArray.size := by rw [List.size_toArray, itemC_length n0 p0 s0 t0 hp0 hs0]; exact info_item
  have hz2 : (Try.prog.info? 65).map (·.size) = some (itemC n1 p1 s1 t1).toArray.size := by rw [List.size_toArray, itemC_length n1 p1 s1 t1 hp1 hs1]; exact info_item
  have szI := innerC_size n0 p0 s0 t0 n1 p1 s1 t1 hp0 hs0 hp1 hs1
  have szZ := innerC_size 0 zlab zlab 0 0 zlab zlab 0 rfl rfl rfl rfl
  have hzI : (Try.prog.info? 69).map (·.size) = some (innerC n0 p0 s0 t0 n1 p1 s1 t1).toArray.size := by rw [szI]; exact info_inner
  have fI : 0 + (innerC n0 p0 s0 t0 n1 p1 s1 t1).toArray.size ≤ (innerC 0 zlab zlab 0 0 zlab zlab 0).toArray.size := by rw [szI, szZ]; decide
  have spI := splice_all (innerC 0 zlab zlab 0 0 zlab zlab 0).toArray (innerC n0 p0 s0 t0 n1 p1 s1 t1).toArray (by rw [szI, szZ])
  have oI := innerC_one n0 p0 s0 t0 n1 p1 s1 t1
  have fL : 0 + (leafC l v i).toArray.size ≤ (leafC zlab zlab 0).toArray.size := by rw [List.size_toArray, List.size_toArray, leafC_length l v i hl hv, leafC_length zlab zlab 0 rfl rfl]; decide
  have spL := splice_all (leafC zlab zlab 0).toArray (leafC l v i).toArray (by rw [List.size_toArray, List.size_toArray, leafC_length l v i hl hv, leafC_length zlab zlab 0 rfl rfl])
  have oL := leafC_one l v i
  have hbd := build_inner n0 t0 n1 t1 p0 s0 p1 s1 hp0 hs0 hp1 hs1
  have AL := Lib.hid (fun W => asLeaf_leaf l v i hl hv W)
  have AI := Lib.hid (fun W => asInner_inner n0 p0 s0 t0 n1 p1 s1 t1 hp0 hs0 hp1 hs1 W)
  have hnq : ∀ W : World, (binOp .neq 61 (.agg (leafC l v i).toArray) (.agg (leafC l v i).toArray)).run Try.prog W = .ok (.bool false) W := fun W => (neq61 l v i l v i hl hv hi hl hv hi W).trans (by rw [show D.eqLeaf l v i l v i = true by simp [D.eqLeaf]]; rfl)
  have heq : ∀ W : World, (binOp .eql 69 (.agg (innerC n0 p0 s0 t0 n1 p1 s1 t1).toArray) (.agg (innerC n0 p0 s0 t0 n1 p1 s1 t1).toArray)).run Try.prog W = .ok (.bool true) W := fun W =>
    eql_lits (m := 5) (D := 5) (D' := 5) (by kernel_rfl) (by omega) (formed69 _ _ _ _ _ _ _ _ hp0 hs0 hp1 hs1) (formed69 _ _ _ _ _ _ _ _ hp0 hs0 hp1 hs1) (lits69 _ _ _ _ _ _ _ _ hn0 hp0 hs0 ht0 hn1 hp1 hs1 ht1) (lits69 _ _ _ _ _ _ _ _ hn0 hp0 hs0 ht0 hn1 hp1 hs1 ht1) (by simp) W
  obtain ⟨B0, B1, B2, hB⟩ := box3b w (leafC l v i).toArray (itemC n0 p0 s0 t0).toArray (itemC n1 p1 s1 t1).toArray 61 65 65 _ rfl
  have RL : D.leafE i = 0 → ∀ W : World, Calls Try.prog 54 #[.string ⟨(D.leafO l v i).toArray⟩] W fun e w' => e = .returned (.tuple #[.iface 61 (.agg (leafC l v i).toArray), .int .i64 0]) ∧ Below W.heap.size W w' := fun hE W => by
    obtain ⟨k, rfl, hk⟩ := D.leafE_nat hE
    have e1 : D.leafO l v (k : Int) = (D.Nd.leaf l v k).text := by
      show (if D.leafE (k : Int) = 0 then D.leafW l v (k : Int).toNat else []) = D.flagB false ++ (l ++ v ++ D.numB k)
      rw [if_pos hE, Int.toNat_natCast]
      show D.flagB false ++ l ++ v ++ D.numB k = D.flagB false ++ (l ++ v ++ D.numB k)
      simp only [List.append_assoc]
    have hb := D.leaf_back l v k hl hv (by omega)
    obtain ⟨r1, r2⟩ := D.rd_of hb (show D.leafE (k : Int) = 0 from hE)
    have hlen : (D.Nd.leaf l v k).text.length ≤ 65536 := by
      have := D.numB_le9 k (by omega)
      show (D.flagB false ++ (l ++ v ++ D.numB k)).length ≤ _
      have hf : (D.flagB false).length = 1 := rfl
      simp only [List.length_append, hl, hv, hf]; omega
    have h := nodeRead_any (D.Nd.leaf l v k).text hlen W
    rw [r1, r2, ← e1] at h
    exact h
  have RI : D.innerE n0 p0 t0 n1 p1 t1 = 0 → ∀ W : World, Calls Try.prog 54 #[.string ⟨(D.innerO n0 p0 s0 t0 n1 p1 s1 t1).toArray⟩] W fun e w' => e = .returned (.tuple #[.iface 69 (.agg (innerC n0 p0 s0 t0 n1 p1 s1 t1).toArray), .int .i64 0]) ∧ Below W.heap.size W w' := fun hE W => by
    obtain ⟨g1, g2⟩ := D.innerE_good hE
    obtain ⟨n0, t0, rfl, hm0, rfl, hq0, -⟩ := D.goodI_nat g1
    obtain ⟨n1, t1, rfl, hm1, rfl, hq1, -⟩ := D.goodI_nat g2
    have e1 : D.innerO (n0 : Int) p0 s0 t0 n1 p1 s1 t1 = (D.Nd.inner (n0, p0, s0, t0) (n1, p1, s1, t1)).text := by
      unfold D.innerO
      rw [if_pos hE]
      rfl
    have hb := D.inner_back (n0, p0, s0, t0) (n1, p1, s1, t1) ⟨by show n0 < _; omega, hp0, hs0, by show t0 < _; omega⟩ ⟨by show n1 < _; omega, hp1, hs1, by show t1 < _; omega⟩
    obtain ⟨r1, r2⟩ := D.rd_of hb (show D.innerE (n0 : Int) p0 t0 n1 p1 t1 = 0 from hE)
    have hlen : (D.Nd.inner (n0, p0, s0, t0) (n1, p1, s1, t1)).text.length ≤ 65536 := by
      have a1 := D.numB_le9 n0 (by omega)
      have a2 := D.numB_le9 t0 (by omega)
      have a3 := D.numB_le9 n1 (by omega)
      have a4 := D.numB_le9 t1 (by omega)
      show (D.flagB true ++ (D.numB n0 ++ p0 ++ s0 ++ D.numB t0) ++ (D.numB n1 ++ p1 ++ s1 ++ D.numB t1)).length ≤ _
      have hf : (D.flagB true).length = 1 := rfl
      simp only [List.length_append, hp0, hs0, hp1, hs1, hf]; omega
    have h := nodeRead_any (D.Nd.inner (n0, p0, s0, t0) (n1, p1, s1, t1)).text hlen W
    rw [r1, r2, ← e1] at h
    exact h
  have hne : D.innerE n0 p0 t0 n1 p1 t1 = 0 → (D.innerO n0 p0 s0 t0 n1 p1 s1 t1 == D.leafO l v i) = false := fun hE => by
    have h1 : D.innerO n0 p0 s0 t0 n1 p1 s1 t1 = 1 :: (D.itemW n0.toNat p0 s0 t0.toNat ++ D.itemW n1.toNat p1 s1 t1.toNat) := by unfold D.innerO; rw [if_pos hE]; rfl
    rw [h1]
    by_cases hL : D.leafE i = 0
    · have h2 : D.leafO l v i = 0 :: (l ++ v ++ D.numB i.toNat) := by unfold D.leafO; rw [if_pos hL]; show D.flagB false ++ l ++ v ++ D.numB i.toNat = _; rw [List.append_assoc, List.append_assoc]; simp [D.flagB]
      rw [h2]; exact lead_ne _ _ _ _ (by decide)
    · have h2 : D.leafO l v i = [] := by unfold D.leafO; rw [if_neg hL]
      rw [h2]; rfl
  have hLv := D.leafE_vals i
  have hIv := D.innerE_vals n0 p0 t0 n1 p1 t1
  generalize D.leafO l v i = LO at *
  generalize D.innerO n0 p0 s0 t0 n1 p1 s1 t1 = IO at *
  generalize D.leafE i = eL at *
  generalize D.innerE n0 p0 t0 n1 p1 t1 = eI at *
  clear hl hv hi hn0 hp0 hs0 ht0 hn1 hp1 hs1 ht1 szI szZ
  generalize (leafC l v i).toArray = LC at *
  generalize (itemC n0 p0 s0 t0).toArray = IA at *
  generalize (itemC n1 p1 s1 t1).toArray = IB at *
  generalize (innerC n0 p0 s0 t0 n1 p1 s1 t1).toArray = IC at *
  go_enter Try.func17, Try.ntmps17
  rcases hLv with rfl | rfl
  · replace RL := Lib.hid (RL rfl)
    rcases hIv with rfl | rfl | rfl
    · replace RI := Lib.hid (RI rfl)
      replace hne := hne rfl
      go_wp2_with (first | (refine wpList_load_blk (by rfl) 61 (.tmp 3) (by rfl) 0 (by rfl) (B0) (LC) whole_at _ Try.underlying61 (by rfl) hz0 ?_; simp only [Act.put, List.setIfInBounds_toArray, List.set_cons_succ, List.set_cons_zero]) | (refine wpList_load_blk (by rfl) 65 (.tmp 4) (by rfl) 0 (by rfl) (B1) (IA) whole_at _ Try.underlying65 (by rfl) hz1 ?_; simp only [Act.put, List.setIfInBounds_toArray, List.set_cons_succ, List.set_cons_zero]) | (refine wpList_load_blk (by rfl) 65 (.tmp 5) (by rfl) 0 (by rfl) (B2) (IB) whole_at _ Try.underlying65 (by rfl) hz2 ?_; simp only [Act.put, List.setIfInBounds_toArray, List.set_cons_succ, List.set_cons_zero]) | (go_at_call 44; first | ((with_reducible refine (BL.out _).mono ?_); rintro e w1 ⟨rfl, h1⟩; replace B0 := B0.at_ h1; replace B1 := B1.at_ h1; replace B2 := B2.at_ h1; replace hB := hB.trans (h1.mono hB.size); (try replace X13 := X13.at_ h1); (try replace X18 := X18.at_ h1)) | ((with_reducible refine (BI.out _).mono ?_); rintro e w1 ⟨rfl, h1⟩; replace B0 := B0.at_ h1; replace B1 := B1.at_ h1; replace B2 := B2.at_ h1; replace hB := hB.trans (h1.mono hB.size); (try replace X13 := X13.at_ h1); (try replace X18 := X18.at_ h1))) | (go_at_call 54; first | ((with_reducible refine (RL.out _).mono ?_); rintro e w1 ⟨rfl, h1⟩; replace B0 := B0.at_ h1; replace B1 := B1.at_ h1; replace B2 := B2.at_ h1; replace hB := hB.trans (h1.mono hB.size); (try replace X13 := X13.at_ h1); (try replace X18 := X18.at_ h1)) | ((with_reducible refine (RI.out _).mono ?_); rintro e w1 ⟨rfl, h1⟩; replace B0 := B0.at_ h1; replace B1 := B1.at_ h1; replace B2 := B2.at_ h1; replace hB := hB.trans (h1.mono hB.size); (try replace X13 := X13.at_ h1); (try replace X18 := X18.at_ h1))) | ((go_at_call 56; (with_reducible refine (AL.out _).mono ?_)); rintro e w1 ⟨rfl, h1⟩; replace B0 := B0.at_ h1; replace B1 := B1.at_ h1; replace B2 := B2.at_ h1; replace hB := hB.trans (h1.mono hB.size); (try replace X13 := X13.at_ h1); (try replace X18 := X18.at_ h1); have Y := Blk.new w1 (leafC zlab zlab 0).toArray 61) | (refine wpList_fresh (by rfl) 61 (by rfl) _ fresh_leaf ?_; simp only [Act.put, List.setIfInBounds_toArray, List.set_cons_succ, List.set_cons_zero]; try simp only [World.size_alloc]) | ((refine wpList_store_blk (by rfl) 61 (.tmp 11) (.tmp 36) (by rfl) (0) (LC) (by rfl) (by rfl) (Y) (fL) hz0 (oL) ?_; simp only [Act.put]); intro w2 X11 o2; rw [spL] at X11; have q0 := B0.lt; have q1 := B1.lt; have q2 := B2.lt; have hB' := hB.size; replace B0 := (B0.alloc _).only o2 (by omega); replace B1 := (B1.alloc _).only o2 (by omega); replace B2 := (B2.alloc _).only o2 (by omega); replace hB := o2.below (hB.alloc hB.size _) (by omega)) | (refine wpList_load_blk (by rfl) 61 (.tmp 11) (by rfl) 0 (by rfl) (X11) (LC) whole_at _ Try.underlying61 (by rfl) hz0 ?_; simp only [Act.put, List.setIfInBounds_toArray, List.set_cons_succ, List.set_cons_zero]) | (refine wpList_bin (by rfl) .neq 61 61 (.tmp 45) (.tmp 46) (by rfl) (LC) (LC) (by rfl) (by rfl) guard61 (.bool false) (hnq) ?_; simp only [Act.put, List.setIfInBounds_toArray, List.set_cons_succ, List.set_cons_zero]) | (refine wpList_build (by rfl) 69 ([(0, .tmp 49), (1, .tmp 50)]) (by rfl) ([(0, .agg IA), (1, .agg IB)]) (by rfl) (.agg IC) (hbd) ?_; simp only [Act.put, List.setIfInBounds_toArray, List.set_cons_succ, List.set_cons_zero]) | (refine wpList_fresh (by rfl) 69 (by rfl) _ fresh_inner ?_; simp only [Act.put, List.setIfInBounds_toArray, List.set_cons_succ, List.set_cons_zero]; try simp only [World.size_alloc]) | ((refine wpList_store_blk (by rfl) 69 (.tmp 13) (.tmp 51) (by rfl) (0) (IC) (by rfl) (by rfl) (Blk.new _ _ _) (fI) hzI (oI) ?_; simp only [Act.put]); intro w3 X13 o3; rw [spI] at X13; have q0 := B0.lt; have q1 := B1.lt; have q2 := B2.lt; have hB' := hB.size; replace B0 := (B0.alloc _).only o3 (by omega); replace B1 := (B1.alloc _).only o3 (by omega); replace B2 := (B2.alloc _).only o3 (by omega); replace hB := o3.below (hB.alloc hB.size _) (by omega)) | (refine wpList_load_blk (by rfl) 69 (.tmp 13) (by rfl) 0 (by rfl) (X13) (IC) whole_at _ Try.underlying69 (by rfl) hzI ?_; simp only [Act.put, List.setIfInBounds_toArray, List.set_cons_succ, List.set_cons_zero]) | ((go_at_call 57; (with_reducible refine (AI.out _).mono ?_)); rintro e w1 ⟨rfl, h1⟩; replace B0 := B0.at_ h1; replace B1 := B1.at_ h1; replace B2 := B2.at_ h1; replace hB := hB.trans (h1.mono hB.size); (try replace X13 := X13.at_ h1); (try replace X18 := X18.at_ h1)) | ((refine wpList_store_blk (by rfl) 69 (.tmp 18) (.tmp 69) (by rfl) (0) (IC) (by rfl) (by rfl) (Blk.new _ _ _) (fI) hzI (oI) ?_; simp only [Act.put]); intro w4 X18 o4; rw [spI] at X18; have q0 := B0.lt; have q1 := B1.lt; have q2 := B2.lt; have q3 := X13.lt; have hB' := hB.size; replace B0 := (B0.alloc _).only o4 (by omega); replace B1 := (B1.alloc _).only o4 (by omega); replace B2 := (B2.alloc _).only o4 (by omega); replace X13 := (X13.alloc _).only o4 (by omega); replace hB := o4.below (hB.alloc hB.size _) (by omega)) | ((go_at_call 47; (with_reducible refine (AA.out _).mono ?_)); rintro e w1 ⟨rfl, h1⟩; replace B0 := B0.at_ h1; replace B1 := B1.at_ h1; replace B2 := B2.at_ h1; replace hB := hB.trans (h1.mono hB.size); (try replace X13 := X13.at_ h1); (try replace X18 := X18.at_ h1)) | (refine wpList_load_blk (by rfl) 69 (.tmp 18) (by rfl) 0 (by rfl) (X18) (IC) whole_at _ Try.underlying69 (by rfl) hzI ?_; simp only [Act.put, List.setIfInBounds_toArray, List.set_cons_succ, List.set_cons_zero]) | (refine wpList_bin (by rfl) .eql 69 69 (.tmp 80) (.tmp 81) (by rfl) (IC) (IC) (by rfl) (by rfl) guard69 (.bool true) (heq) ?_; simp only [Act.put, List.setIfInBounds_toArray, List.set_cons_succ, List.set_cons_zero]))
      go_ret
      exact ⟨rfl, hB⟩
    · clear RI hne
      go_wp2_with (first | (refine wpList_load_blk (by rfl) 61 (.tmp 3) (by rfl) 0 (by rfl) (B0) (LC) whole_at _ Try.underlying61 (by rfl) hz0 ?_; simp only [Act.put, List.setIfInBounds_toArray, List.set_cons_succ, List.set_cons_zero]) | (refine wpList_load_blk (by rfl) 65 (.tmp 4) (by rfl) 0 (by rfl) (B1) (IA) whole_at _ Try.underlying65 (by rfl) hz1 ?_; simp only [Act.put, List.setIfInBounds_toArray, List.set_cons_succ, List.set_cons_zero]) | (refine wpList_load_blk (by rfl) 65 (.tmp 5) (by rfl) 0 (by rfl) (B2) (IB) whole_at _ Try.underlying65 (by rfl) hz2 ?_; simp only [Act.put, List.setIfInBounds_toArray, List.set_cons_succ, List.set_cons_zero]) | (go_at_call 44; first | ((with_reducible refine (BL.out _).mono ?_); rintro e w1 ⟨rfl, h1⟩; replace B0 := B0.at_ h1; replace B1 := B1.at_ h1; replace B2 := B2.at_ h1; replace hB := hB.trans (h1.mono hB.size); (try replace X13 := X13.at_ h1); (try replace X18 := X18.at_ h1)) | ((with_reducible refine (BI.out _).mono ?_); rintro e w1 ⟨rfl, h1⟩; replace B0 := B0.at_ h1; replace B1 := B1.at_ h1; replace B2 := B2.at_ h1; replace hB := hB.trans (h1.mono hB.size); (try replace X13 := X13.at_ h1); (try replace X18 := X18.at_ h1))) | (go_at_call 54; first | ((with_reducible refine (RL.out _).mono ?_); rintro e w1 ⟨rfl, h1⟩; replace B0 := B0.at_ h1; replace B1 := B1.at_ h1; replace B2 := B2.at_ h1; replace hB := hB.trans (h1.mono hB.size); (try replace X13 := X13.at_ h1); (try replace X18 := X18.at_ h1)) | ((with_reducible refine (RI.out _).mono ?_); rintro e w1 ⟨rfl, h1⟩; replace B0 := B0.at_ h1; replace B1 := B1.at_ h1; replace B2 := B2.at_ h1; replace hB := hB.trans (h1.mono hB.size); (try replace X13 := X13.at_ h1); (try replace X18 := X18.at_ h1))) | ((go_at_call 56; (with_reducible refine (AL.out _).mono ?_)); rintro e w1 ⟨rfl, h1⟩; replace B0 := B0.at_ h1; replace B1 := B1.at_ h1; replace B2 := B2.at_ h1; replace hB := hB.trans (h1.mono hB.size); (try replace X13 := X13.at_ h1); (try replace X18 := X18.at_ h1); have Y := Blk.new w1 (leafC zlab zlab 0).toArray 61) | (refine wpList_fresh (by rfl) 61 (by rfl) _ fresh_leaf ?_; simp only [Act.put, List.setIfInBounds_toArray, List.set_cons_succ, List.set_cons_zero]; try simp only [World.size_alloc]) | ((refine wpList_store_blk (by rfl) 61 (.tmp 11) (.tmp 36) (by rfl) (0) (LC) (by rfl) (by rfl) (Y) (fL) hz0 (oL) ?_; simp only [Act.put]); intro w2 X11 o2; rw [spL] at X11; have q0 := B0.lt; have q1 := B1.lt; have q2 := B2.lt; have hB' := hB.size; replace B0 := (B0.alloc _).only o2 (by omega); replace B1 := (B1.alloc _).only o2 (by omega); replace B2 := (B2.alloc _).only o2 (by omega); replace hB := o2.below (hB.alloc hB.size _) (by omega)) | (refine wpList_load_blk (by rfl) 61 (.tmp 11) (by rfl) 0 (by rfl) (X11) (LC) whole_at _ Try.underlying61 (by rfl) hz0 ?_; simp only [Act.put, List.setIfInBounds_toArray, List.set_cons_succ, List.set_cons_zero]) | (refine wpList_bin (by rfl) .neq 61 61 (.tmp 45) (.tmp 46) (by rfl) (LC) (LC) (by rfl) (by rfl) guard61 (.bool false) (hnq) ?_; simp only [Act.put, List.setIfInBounds_toArray, List.set_cons_succ, List.set_cons_zero]) | (refine wpList_build (by rfl) 69 ([(0, .tmp 49), (1, .tmp 50)]) (by rfl) ([(0, .agg IA), (1, .agg IB)]) (by rfl) (.agg IC) (hbd) ?_; simp only [Act.put, List.setIfInBounds_toArray, List.set_cons_succ, List.set_cons_zero]) | (refine wpList_fresh (by rfl) 69 (by rfl) _ fresh_inner ?_; simp only [Act.put, List.setIfInBounds_toArray, List.set_cons_succ, List.set_cons_zero]; try simp only [World.size_alloc]) | ((refine wpList_store_blk (by rfl) 69 (.tmp 13) (.tmp 51) (by rfl) (0) (IC) (by rfl) (by rfl) (Blk.new _ _ _) (fI) hzI (oI) ?_; simp only [Act.put]); intro w3 X13 o3; rw [spI] at X13; have q0 := B0.lt; have q1 := B1.lt; have q2 := B2.lt; have hB' := hB.size; replace B0 := (B0.alloc _).only o3 (by omega); replace B1 := (B1.alloc _).only o3 (by omega); replace B2 := (B2.alloc _).only o3 (by omega); replace hB := o3.below (hB.alloc hB.size _) (by omega)) | (refine wpList_load_blk (by rfl) 69 (.tmp 13) (by rfl) 0 (by rfl) (X13) (IC) whole_at _ Try.underlying69 (by rfl) hzI ?_; simp only [Act.put, List.setIfInBounds_toArray, List.set_cons_succ, List.set_cons_zero]) | ((go_at_call 57; (with_reducible refine (AI.out _).mono ?_)); rintro e w1 ⟨rfl, h1⟩; replace B0 := B0.at_ h1; replace B1 := B1.at_ h1; replace B2 := B2.at_ h1; replace hB := hB.trans (h1.mono hB.size); (try replace X13 := X13.at_ h1); (try replace X18 := X18.at_ h1)) | ((refine wpList_store_blk (by rfl) 69 (.tmp 18) (.tmp 69) (by rfl) (0) (IC) (by rfl) (by rfl) (Blk.new _ _ _) (fI) hzI (oI) ?_; simp only [Act.put]); intro w4 X18 o4; rw [spI] at X18; have q0 := B0.lt; have q1 := B1.lt; have q2 := B2.lt; have q3 := X13.lt; have hB' := hB.size; replace B0 := (B0.alloc _).only o4 (by omega); replace B1 := (B1.alloc _).only o4 (by omega); replace B2 := (B2.alloc _).only o4 (by omega); replace X13 := (X13.alloc _).only o4 (by omega); replace hB := o4.below (hB.alloc hB.size _) (by omega)) | ((go_at_call 47; (with_reducible refine (AA.out _).mono ?_)); rintro e w1 ⟨rfl, h1⟩; replace B0 := B0.at_ h1; replace B1 := B1.at_ h1; replace B2 := B2.at_ h1; replace hB := hB.trans (h1.mono hB.size); (try replace X13 := X13.at_ h1); (try replace X18 := X18.at_ h1)) | (refine wpList_load_blk (by rfl) 69 (.tmp 18) (by rfl) 0 (by rfl) (X18) (IC) whole_at _ Try.underlying69 (by rfl) hzI ?_; simp only [Act.put, List.setIfInBounds_toArray, List.set_cons_succ, List.set_cons_zero]) | (refine wpList_bin (by rfl) .eql 69 69 (.tmp 80) (.tmp 81) (by rfl) (IC) (IC) (by rfl) (by rfl) guard69 (.bool true) (heq) ?_; simp only [Act.put, List.setIfInBounds_toArray, List.set_cons_succ, List.set_cons_zero]))
      go_ret
      exact ⟨rfl, hB⟩
    · clear RI hne
      go_wp2_with (first | (refine wpList_load_blk (by rfl) 61 (.tmp 3) (by rfl) 0 (by rfl) (B0) (LC) whole_at _ Try.underlying61 (by rfl) hz0 ?_; simp only [Act.put, List.setIfInBounds_toArray, List.set_cons_succ, List.set_cons_zero]) | (refine wpList_load_blk (by rfl) 65 (.tmp 4) (by rfl) 0 (by rfl) (B1) (IA) whole_at _ Try.underlying65 (by rfl) hz1 ?_; simp only [Act.put, List.setIfInBounds_toArray, List.set_cons_succ, List.set_cons_zero]) | (refine wpList_load_blk (by rfl) 65 (.tmp 5) (by rfl) 0 (by rfl) (B2) (IB) whole_at _ Try.underlying65 (by rfl) hz2 ?_; simp only [Act.put, List.setIfInBounds_toArray, List.set_cons_succ, List.set_cons_zero]) | (go_at_call 44; first | ((with_reducible refine (BL.out _).mono ?_); rintro e w1 ⟨rfl, h1⟩; replace B0 := B0.at_ h1; replace B1 := B1.at_ h1; replace B2 := B2.at_ h1; replace hB := hB.trans (h1.mono hB.size); (try replace X13 := X13.at_ h1); (try replace X18 := X18.at_ h1)) | ((with_reducible refine (BI.out _).mono ?_); rintro e w1 ⟨rfl, h1⟩; replace B0 := B0.at_ h1; replace B1 := B1.at_ h1; replace B2 := B2.at_ h1; replace hB := hB.trans (h1.mono hB.size); (try replace X13 := X13.at_ h1); (try replace X18 := X18.at_ h1))) | (go_at_call 54; first | ((with_reducible refine (RL.out _).mono ?_); rintro e w1 ⟨rfl, h1⟩; replace B0 := B0.at_ h1; replace B1 := B1.at_ h1; replace B2 := B2.at_ h1; replace hB := hB.trans (h1.mono hB.size); (try replace X13 := X13.at_ h1); (try replace X18 := X18.at_ h1)) | ((with_reducible refine (RI.out _).mono ?_); rintro e w1 ⟨rfl, h1⟩; replace B0 := B0.at_ h1; replace B1 := B1.at_ h1; replace B2 := B2.at_ h1; replace hB := hB.trans (h1.mono hB.size); (try replace X13 := X13.at_ h1); (try replace X18 := X18.at_ h1))) | ((go_at_call 56; (with_reducible refine (AL.out _).mono ?_)); rintro e w1 ⟨rfl, h1⟩; replace B0 := B0.at_ h1; replace B1 := B1.at_ h1; replace B2 := B2.at_ h1; replace hB := hB.trans (h1.mono hB.size); (try replace X13 := X13.at_ h1); (try replace X18 := X18.at_ h1); have Y := Blk.new w1 (leafC zlab zlab 0).toArray 61) | (refine wpList_fresh (by rfl) 61 (by rfl) _ fresh_leaf ?_; simp only [Act.put, List.setIfInBounds_toArray, List.set_cons_succ, List.set_cons_zero]; try simp only [World.size_alloc]) | ((refine wpList_store_blk (by rfl) 61 (.tmp 11) (.tmp 36) (by rfl) (0) (LC) (by rfl) (by rfl) (Y) (fL) hz0 (oL) ?_; simp only [Act.put]); intro w2 X11 o2; rw [spL] at X11; have q0 := B0.lt; have q1 := B1.lt; have q2 := B2.lt; have hB' := hB.size; replace B0 := (B0.alloc _).only o2 (by omega); replace B1 := (B1.alloc _).only o2 (by omega); replace B2 := (B2.alloc _).only o2 (by omega); replace hB := o2.below (hB.alloc hB.size _) (by omega)) | (refine wpList_load_blk (by rfl) 61 (.tmp 11) (by rfl) 0 (by rfl) (X11) (LC) whole_at _ Try.underlying61 (by rfl) hz0 ?_; simp only [Act.put, List.setIfInBounds_toArray, List.set_cons_succ, List.set_cons_zero]) | (refine wpList_bin (by rfl) .neq 61 61 (.tmp 45) (.tmp 46) (by rfl) (LC) (LC) (by rfl) (by rfl) guard61 (.bool false) (hnq) ?_; simp only [Act.put, List.setIfInBounds_toArray, List.set_cons_succ, List.set_cons_zero]) | (refine wpList_build (by rfl) 69 ([(0, .tmp 49), (1, .tmp 50)]) (by rfl) ([(0, .agg IA), (1, .agg IB)]) (by rfl) (.agg IC) (hbd) ?_; simp only [Act.put, List.setIfInBounds_toArray, List.set_cons_succ, List.set_cons_zero]) | (refine wpList_fresh (by rfl) 69 (by rfl) _ fresh_inner ?_; simp only [Act.put, List.setIfInBounds_toArray, List.set_cons_succ, List.set_cons_zero]; try simp only [World.size_alloc]) | ((refine wpList_store_blk (by rfl) 69 (.tmp 13) (.tmp 51) (by rfl) (0) (IC) (by rfl) (by rfl) (Blk.new _ _ _) (fI) hzI (oI) ?_; simp only [Act.put]); intro w3 X13 o3; rw [spI] at X13; have q0 := B0.lt; have q1 := B1.lt; have q2 := B2.lt; have hB' := hB.size; replace B0 := (B0.alloc _).only o3 (by omega); replace B1 := (B1.alloc _).only o3 (by omega); replace B2 := (B2.alloc _).only o3 (by omega); replace hB := o3.below (hB.alloc hB.size _) (by omega)) | (refine wpList_load_blk (by rfl) 69 (.tmp 13) (by rfl) 0 (by rfl) (X13) (IC) whole_at _ Try.underlying69 (by rfl) hzI ?_; simp only [Act.put, List.setIfInBounds_toArray, List.set_cons_succ, List.set_cons_zero]) | ((go_at_call 57; (with_reducible refine (AI.out _).mono ?_)); rintro e w1 ⟨rfl, h1⟩; replace B0 := B0.at_ h1; replace B1 := B1.at_ h1; replace B2 := B2.at_ h1; replace hB := hB.trans (h1.mono hB.size); (try replace X13 := X13.at_ h1); (try replace X18 := X18.at_ h1)) | ((refine wpList_store_blk (by rfl) 69 (.tmp 18) (.tmp 69) (by rfl) (0) (IC) (by rfl) (by rfl) (Blk.new _ _ _) (fI) hzI (oI) ?_; simp only [Act.put]); intro w4 X18 o4; rw [spI] at X18; have q0 := B0.lt; have q1 := B1.lt; have q2 := B2.lt; have q3 := X13.lt; have hB' := hB.size; replace B0 := (B0.alloc _).only o4 (by omega); replace B1 := (B1.alloc _).only o4 (by omega); replace B2 := (B2.alloc _).only o4 (by omega); replace X13 := (X13.alloc _).only o4 (by omega); replace hB := o4.below (hB.alloc hB.size _) (by omega)) | ((go_at_call 47; (with_reducible refine (AA.out _).mono ?_)); rintro e w1 ⟨rfl, h1⟩; replace B0 := B0.at_ h1; replace B1 := B1.at_ h1; replace B2 := B2.at_ h1; replace hB := hB.trans (h1.mono hB.size); (try replace X13 := X13.at_ h1); (try replace X18 := X18.at_ h1)) | (refine wpList_load_blk (by rfl) 69 (.tmp 18) (by rfl) 0 (by rfl) (X18) (IC) whole_at _ Try.underlying69 (by rfl) hzI ?_; simp only [Act.put, List.setIfInBounds_toArray, List.set_cons_succ, List.set_cons_zero]) | (refine wpList_bin (by rfl) .eql 69 69 (.tmp 80) (.tmp 81) (by rfl) (IC) (IC) (by rfl) (by rfl) guard69 (.bool true) (heq) ?_; simp only [Act.put, List.setIfInBounds_toArray, List.set_cons_succ, List.set_cons_zero]))
      go_ret
      exact ⟨rfl, hB⟩
  · clear RL
    rcases hIv with rfl | rfl | rfl
    · replace RI := Lib.hid (RI rfl)
      replace hne := hne rfl
      go_wp2_with (first | (refine wpList_load_blk (by rfl) 61 (.tmp 3) (by rfl) 0 (by rfl) (B0) (LC) whole_at _ Try.underlying61 (by rfl) hz0 ?_; simp only [Act.put, List.setIfInBounds_toArray, List.set_cons_succ, List.set_cons_zero]) | (refine wpList_load_blk (by rfl) 65 (.tmp 4) (by rfl) 0 (by rfl) (B1) (IA) whole_at _ Try.underlying65 (by rfl) hz1 ?_; simp only [Act.put, List.setIfInBounds_toArray, List.set_cons_succ, List.set_cons_zero]) | (refine wpList_load_blk (by rfl) 65 (.tmp 5) (by rfl) 0 (by rfl) (B2) (IB) whole_at _ Try.underlying65 (by rfl) hz2 ?_; simp only [Act.put, List.setIfInBounds_toArray, List.set_cons_succ, List.set_cons_zero]) | (go_at_call 44; first | ((with_reducible refine (BL.out _).mono ?_); rintro e w1 ⟨rfl, h1⟩; replace B0 := B0.at_ h1; replace B1 := B1.at_ h1; replace B2 := B2.at_ h1; replace hB := hB.trans (h1.mono hB.size); (try replace X13 := X13.at_ h1); (try replace X18 := X18.at_ h1)) | ((with_reducible refine (BI.out _).mono ?_); rintro e w1 ⟨rfl, h1⟩; replace B0 := B0.at_ h1; replace B1 := B1.at_ h1; replace B2 := B2.at_ h1; replace hB := hB.trans (h1.mono hB.size); (try replace X13 := X13.at_ h1); (try replace X18 := X18.at_ h1))) | (go_at_call 54; first | ((with_reducible refine (RL.out _).mono ?_); rintro e w1 ⟨rfl, h1⟩; replace B0 := B0.at_ h1; replace B1 := B1.at_ h1; replace B2 := B2.at_ h1; replace hB := hB.trans (h1.mono hB.size); (try replace X13 := X13.at_ h1); (try replace X18 := X18.at_ h1)) | ((with_reducible refine (RI.out _).mono ?_); rintro e w1 ⟨rfl, h1⟩; replace B0 := B0.at_ h1; replace B1 := B1.at_ h1; replace B2 := B2.at_ h1; replace hB := hB.trans (h1.mono hB.size); (try replace X13 := X13.at_ h1); (try replace X18 := X18.at_ h1))) | ((go_at_call 56; (with_reducible refine (AL.out _).mono ?_)); rintro e w1 ⟨rfl, h1⟩; replace B0 := B0.at_ h1; replace B1 := B1.at_ h1; replace B2 := B2.at_ h1; replace hB := hB.trans (h1.mono hB.size); (try replace X13 := X13.at_ h1); (try replace X18 := X18.at_ h1); have Y := Blk.new w1 (leafC zlab zlab 0).toArray 61) | (refine wpList_fresh (by rfl) 61 (by rfl) _ fresh_leaf ?_; simp only [Act.put, List.setIfInBounds_toArray, List.set_cons_succ, List.set_cons_zero]; try simp only [World.size_alloc]) | ((refine wpList_store_blk (by rfl) 61 (.tmp 11) (.tmp 36) (by rfl) (0) (LC) (by rfl) (by rfl) (Y) (fL) hz0 (oL) ?_; simp only [Act.put]); intro w2 X11 o2; rw [spL] at X11; have q0 := B0.lt; have q1 := B1.lt; have q2 := B2.lt; have hB' := hB.size; replace B0 := (B0.alloc _).only o2 (by omega); replace B1 := (B1.alloc _).only o2 (by omega); replace B2 := (B2.alloc _).only o2 (by omega); replace hB := o2.below (hB.alloc hB.size _) (by omega)) | (refine wpList_load_blk (by rfl) 61 (.tmp 11) (by rfl) 0 (by rfl) (X11) (LC) whole_at _ Try.underlying61 (by rfl) hz0 ?_; simp only [Act.put, List.setIfInBounds_toArray, List.set_cons_succ, List.set_cons_zero]) | (refine wpList_bin (by rfl) .neq 61 61 (.tmp 45) (.tmp 46) (by rfl) (LC) (LC) (by rfl) (by rfl) guard61 (.bool false) (hnq) ?_; simp only [Act.put, List.setIfInBounds_toArray, List.set_cons_succ, List.set_cons_zero]) | (refine wpList_build (by rfl) 69 ([(0, .tmp 49), (1, .tmp 50)]) (by rfl) ([(0, .agg IA), (1, .agg IB)]) (by rfl) (.agg IC) (hbd) ?_; simp only [Act.put, List.setIfInBounds_toArray, List.set_cons_succ, List.set_cons_zero]) | (refine wpList_fresh (by rfl) 69 (by rfl) _ fresh_inner ?_; simp only [Act.put, List.setIfInBounds_toArray, List.set_cons_succ, List.set_cons_zero]; try simp only [World.size_alloc]) | ((refine wpList_store_blk (by rfl) 69 (.tmp 13) (.tmp 51) (by rfl) (0) (IC) (by rfl) (by rfl) (Blk.new _ _ _) (fI) hzI (oI) ?_; simp only [Act.put]); intro w3 X13 o3; rw [spI] at X13; have q0 := B0.lt; have q1 := B1.lt; have q2 := B2.lt; have hB' := hB.size; replace B0 := (B0.alloc _).only o3 (by omega); replace B1 := (B1.alloc _).only o3 (by omega); replace B2 := (B2.alloc _).only o3 (by omega); replace hB := o3.below (hB.alloc hB.size _) (by omega)) | (refine wpList_load_blk (by rfl) 69 (.tmp 13) (by rfl) 0 (by rfl) (X13) (IC) whole_at _ Try.underlying69 (by rfl) hzI ?_; simp only [Act.put, List.setIfInBounds_toArray, List.set_cons_succ, List.set_cons_zero]) | ((go_at_call 57; (with_reducible refine (AI.out _).mono ?_)); rintro e w1 ⟨rfl, h1⟩; replace B0 := B0.at_ h1; replace B1 := B1.at_ h1; replace B2 := B2.at_ h1; replace hB := hB.trans (h1.mono hB.size); (try replace X13 := X13.at_ h1); (try replace X18 := X18.at_ h1)) | ((refine wpList_store_blk (by rfl) 69 (.tmp 18) (.tmp 69) (by rfl) (0) (IC) (by rfl) (by rfl) (Blk.new _ _ _) (fI) hzI (oI) ?_; simp only [Act.put]); intro w4 X18 o4; rw [spI] at X18; have q0 := B0.lt; have q1 := B1.lt; have q2 := B2.lt; have q3 := X13.lt; have hB' := hB.size; replace B0 := (B0.alloc _).only o4 (by omega); replace B1 := (B1.alloc _).only o4 (by omega); replace B2 := (B2.alloc _).only o4 (by omega); replace X13 := (X13.alloc _).only o4 (by omega); replace hB := o4.below (hB.alloc hB.size _) (by omega)) | ((go_at_call 47; (with_reducible refine (AA.out _).mono ?_)); rintro e w1 ⟨rfl, h1⟩; replace B0 := B0.at_ h1; replace B1 := B1.at_ h1; replace B2 := B2.at_ h1; replace hB := hB.trans (h1.mono hB.size); (try replace X13 := X13.at_ h1); (try replace X18 := X18.at_ h1)) | (refine wpList_load_blk (by rfl) 69 (.tmp 18) (by rfl) 0 (by rfl) (X18) (IC) whole_at _ Try.underlying69 (by rfl) hzI ?_; simp only [Act.put, List.setIfInBounds_toArray, List.set_cons_succ, List.set_cons_zero]) | (refine wpList_bin (by rfl) .eql 69 69 (.tmp 80) (.tmp 81) (by rfl) (IC) (IC) (by rfl) (by rfl) guard69 (.bool true) (heq) ?_; simp only [Act.put, List.setIfInBounds_toArray, List.set_cons_succ, List.set_cons_zero]))
      go_ret
      exact ⟨rfl, hB⟩
    · clear RI hne
      go_wp2_with (first | (refine wpList_load_blk (by rfl) 61 (.tmp 3) (by rfl) 0 (by rfl) (B0) (LC) whole_at _ Try.underlying61 (by rfl) hz0 ?_; simp only [Act.put, List.setIfInBounds_toArray, List.set_cons_succ, List.set_cons_zero]) | (refine wpList_load_blk (by rfl) 65 (.tmp 4) (by rfl) 0 (by rfl) (B1) (IA) whole_at _ Try.underlying65 (by rfl) hz1 ?_; simp only [Act.put, List.setIfInBounds_toArray, List.set_cons_succ, List.set_cons_zero]) | (refine wpList_load_blk (by rfl) 65 (.tmp 5) (by rfl) 0 (by rfl) (B2) (IB) whole_at _ Try.underlying65 (by rfl) hz2 ?_; simp only [Act.put, List.setIfInBounds_toArray, List.set_cons_succ, List.set_cons_zero]) | (go_at_call 44; first | ((with_reducible refine (BL.out _).mono ?_); rintro e w1 ⟨rfl, h1⟩; replace B0 := B0.at_ h1; replace B1 := B1.at_ h1; replace B2 := B2.at_ h1; replace hB := hB.trans (h1.mono hB.size); (try replace X13 := X13.at_ h1); (try replace X18 := X18.at_ h1)) | ((with_reducible refine (BI.out _).mono ?_); rintro e w1 ⟨rfl, h1⟩; replace B0 := B0.at_ h1; replace B1 := B1.at_ h1; replace B2 := B2.at_ h1; replace hB := hB.trans (h1.mono hB.size); (try replace X13 := X13.at_ h1); (try replace X18 := X18.at_ h1))) | (go_at_call 54; first | ((with_reducible refine (RL.out _).mono ?_); rintro e w1 ⟨rfl, h1⟩; replace B0 := B0.at_ h1; replace B1 := B1.at_ h1; replace B2 := B2.at_ h1; replace hB := hB.trans (h1.mono hB.size); (try replace X13 := X13.at_ h1); (try replace X18 := X18.at_ h1)) | ((with_reducible refine (RI.out _).mono ?_); rintro e w1 ⟨rfl, h1⟩; replace B0 := B0.at_ h1; replace B1 := B1.at_ h1; replace B2 := B2.at_ h1; replace hB := hB.trans (h1.mono hB.size); (try replace X13 := X13.at_ h1); (try replace X18 := X18.at_ h1))) | ((go_at_call 56; (with_reducible refine (AL.out _).mono ?_)); rintro e w1 ⟨rfl, h1⟩; replace B0 := B0.at_ h1; replace B1 := B1.at_ h1; replace B2 := B2.at_ h1; replace hB := hB.trans (h1.mono hB.size); (try replace X13 := X13.at_ h1); (try replace X18 := X18.at_ h1); have Y := Blk.new w1 (leafC zlab zlab 0).toArray 61) | (refine wpList_fresh (by rfl) 61 (by rfl) _ fresh_leaf ?_; simp only [Act.put, List.setIfInBounds_toArray, List.set_cons_succ, List.set_cons_zero]; try simp only [World.size_alloc]) | ((refine wpList_store_blk (by rfl) 61 (.tmp 11) (.tmp 36) (by rfl) (0) (LC) (by rfl) (by rfl) (Y) (fL) hz0 (oL) ?_; simp only [Act.put]); intro w2 X11 o2; rw [spL] at X11; have q0 := B0.lt; have q1 := B1.lt; have q2 := B2.lt; have hB' := hB.size; replace B0 := (B0.alloc _).only o2 (by omega); replace B1 := (B1.alloc _).only o2 (by omega); replace B2 := (B2.alloc _).only o2 (by omega); replace hB := o2.below (hB.alloc hB.size _) (by omega)) | (refine wpList_load_blk (by rfl) 61 (.tmp 11) (by rfl) 0 (by rfl) (X11) (LC) whole_at _ Try.underlying61 (by rfl) hz0 ?_; simp only [Act.put, List.setIfInBounds_toArray, List.set_cons_succ, List.set_cons_zero]) | (refine wpList_bin (by rfl) .neq 61 61 (.tmp 45) (.tmp 46) (by rfl) (LC) (LC) (by rfl) (by rfl) guard61 (.bool false) (hnq) ?_; simp only [Act.put, List.setIfInBounds_toArray, List.set_cons_succ, List.set_cons_zero]) | (refine wpList_build (by rfl) 69 ([(0, .tmp 49), (1, .tmp 50)]) (by rfl) ([(0, .agg IA), (1, .agg IB)]) (by rfl) (.agg IC) (hbd) ?_; simp only [Act.put, List.setIfInBounds_toArray, List.set_cons_succ, List.set_cons_zero]) | (refine wpList_fresh (by rfl) 69 (by rfl) _ fresh_inner ?_; simp only [Act.put, List.setIfInBounds_toArray, List.set_cons_succ, List.set_cons_zero]; try simp only [World.size_alloc]) | ((refine wpList_store_blk (by rfl) 69 (.tmp 13) (.tmp 51) (by rfl) (0) (IC) (by rfl) (by rfl) (Blk.new _ _ _) (fI) hzI (oI) ?_; simp only [Act.put]); intro w3 X13 o3; rw [spI] at X13; have q0 := B0.lt; have q1 := B1.lt; have q2 := B2.lt; have hB' := hB.size; replace B0 := (B0.alloc _).only o3 (by omega); replace B1 := (B1.alloc _).only o3 (by omega); replace B2 := (B2.alloc _).only o3 (by omega); replace hB := o3.below (hB.alloc hB.size _) (by omega)) | (refine wpList_load_blk (by rfl) 69 (.tmp 13) (by rfl) 0 (by rfl) (X13) (IC) whole_at _ Try.underlying69 (by rfl) hzI ?_; simp only [Act.put, List.setIfInBounds_toArray, List.set_cons_succ, List.set_cons_zero]) | ((go_at_call 57; (with_reducible refine (AI.out _).mono ?_)); rintro e w1 ⟨rfl, h1⟩; replace B0 := B0.at_ h1; replace B1 := B1.at_ h1; replace B2 := B2.at_ h1; replace hB := hB.trans (h1.mono hB.size); (try replace X13 := X13.at_ h1); (try replace X18 := X18.at_ h1)) | ((refine wpList_store_blk (by rfl) 69 (.tmp 18) (.tmp 69) (by rfl) (0) (IC) (by rfl) (by rfl) (Blk.new _ _ _) (fI) hzI (oI) ?_; simp only [Act.put]); intro w4 X18 o4; rw [spI] at X18; have q0 := B0.lt; have q1 := B1.lt; have q2 := B2.lt; have q3 := X13.lt; have hB' := hB.size; replace B0 := (B0.alloc _).only o4 (by omega); replace B1 := (B1.alloc _).only o4 (by omega); replace B2 := (B2.alloc _).only o4 (by omega); replace X13 := (X13.alloc _).only o4 (by omega); replace hB := o4.below (hB.alloc hB.size _) (by omega)) | ((go_at_call 47; (with_reducible refine (AA.out _).mono ?_)); rintro e w1 ⟨rfl, h1⟩; replace B0 := B0.at_ h1; replace B1 := B1.at_ h1; replace B2 := B2.at_ h1; replace hB := hB.trans (h1.mono hB.size); (try replace X13 := X13.at_ h1); (try replace X18 := X18.at_ h1)) | (refine wpList_load_blk (by rfl) 69 (.tmp 18) (by rfl) 0 (by rfl) (X18) (IC) whole_at _ Try.underlying69 (by rfl) hzI ?_; simp only [Act.put, List.setIfInBounds_toArray, List.set_cons_succ, List.set_cons_zero]) | (refine wpList_bin (by rfl) .eql 69 69 (.tmp 80) (.tmp 81) (by rfl) (IC) (IC) (by rfl) (by rfl) guard69 (.bool true) (heq) ?_; simp only [Act.put, List.setIfInBounds_toArray, List.set_cons_succ, List.set_cons_zero]))
      go_ret
      exact ⟨rfl, hB⟩
    · clear RI hne
      go_wp2_with (first | (refine wpList_load_blk (by rfl) 61 (.tmp 3) (by rfl) 0 (by rfl) (B0) (LC) whole_at _ Try.underlying61 (by rfl) hz0 ?_; simp only [Act.put, List.setIfInBounds_toArray, List.set_cons_succ, List.set_cons_zero]) | (refine wpList_load_blk (by rfl) 65 (.tmp 4) (by rfl) 0 (by rfl) (B1) (IA) whole_at _ Try.underlying65 (by rfl) hz1 ?_; simp only [Act.put, List.setIfInBounds_toArray, List.set_cons_succ, List.set_cons_zero]) | (refine wpList_load_blk (by rfl) 65 (.tmp 5) (by rfl) 0 (by rfl) (B2) (IB) whole_at _ Try.underlying65 (by rfl) hz2 ?_; simp only [Act.put, List.setIfInBounds_toArray, List.set_cons_succ, List.set_cons_zero]) | (go_at_call 44; first | ((with_reducible refine (BL.out _).mono ?_); rintro e w1 ⟨rfl, h1⟩; replace B0 := B0.at_ h1; replace B1 := B1.at_ h1; replace B2 := B2.at_ h1; replace hB := hB.trans (h1.mono hB.size); (try replace X13 := X13.at_ h1); (try replace X18 := X18.at_ h1)) | ((with_reducible refine (BI.out _).mono ?_); rintro e w1 ⟨rfl, h1⟩; replace B0 := B0.at_ h1; replace B1 := B1.at_ h1; replace B2 := B2.at_ h1; replace hB := hB.trans (h1.mono hB.size); (try replace X13 := X13.at_ h1); (try replace X18 := X18.at_ h1))) | (go_at_call 54; first | ((with_reducible refine (RL.out _).mono ?_); rintro e w1 ⟨rfl, h1⟩; replace B0 := B0.at_ h1; replace B1 := B1.at_ h1; replace B2 := B2.at_ h1; replace hB := hB.trans (h1.mono hB.size); (try replace X13 := X13.at_ h1); (try replace X18 := X18.at_ h1)) | ((with_reducible refine (RI.out _).mono ?_); rintro e w1 ⟨rfl, h1⟩; replace B0 := B0.at_ h1; replace B1 := B1.at_ h1; replace B2 := B2.at_ h1; replace hB := hB.trans (h1.mono hB.size); (try replace X13 := X13.at_ h1); (try replace X18 := X18.at_ h1))) | ((go_at_call 56; (with_reducible refine (AL.out _).mono ?_)); rintro e w1 ⟨rfl, h1⟩; replace B0 := B0.at_ h1; replace B1 := B1.at_ h1; replace B2 := B2.at_ h1; replace hB := hB.trans (h1.mono hB.size); (try replace X13 := X13.at_ h1); (try replace X18 := X18.at_ h1); have Y := Blk.new w1 (leafC zlab zlab 0).toArray 61) | (refine wpList_fresh (by rfl) 61 (by rfl) _ fresh_leaf ?_; simp only [Act.put, List.setIfInBounds_toArray, List.set_cons_succ, List.set_cons_zero]; try simp only [World.size_alloc]) | ((refine wpList_store_blk (by rfl) 61 (.tmp 11) (.tmp 36) (by rfl) (0) (LC) (by rfl) (by rfl) (Y) (fL) hz0 (oL) ?_; simp only [Act.put]); intro w2 X11 o2; rw [spL] at X11; have q0 := B0.lt; have q1 := B1.lt; have q2 := B2.lt; have hB' := hB.size; replace B0 := (B0.alloc _).only o2 (by omega); replace B1 := (B1.alloc _).only o2 (by omega); replace B2 := (B2.alloc _).only o2 (by omega); replace hB := o2.below (hB.alloc hB.size _) (by omega)) | (refine wpList_load_blk (by rfl) 61 (.tmp 11) (by rfl) 0 (by rfl) (X11) (LC) whole_at _ Try.underlying61 (by rfl) hz0 ?_; simp only [Act.put, List.setIfInBounds_toArray, List.set_cons_succ, List.set_cons_zero]) | (refine wpList_bin (by rfl) .neq 61 61 (.tmp 45) (.tmp 46) (by rfl) (LC) (LC) (by rfl) (by rfl) guard61 (.bool false) (hnq) ?_; simp only [Act.put, List.setIfInBounds_toArray, List.set_cons_succ, List.set_cons_zero]) | (refine wpList_build (by rfl) 69 ([(0, .tmp 49), (1, .tmp 50)]) (by rfl) ([(0, .agg IA), (1, .agg IB)]) (by rfl) (.agg IC) (hbd) ?_; simp only [Act.put, List.setIfInBounds_toArray, List.set_cons_succ, List.set_cons_zero]) | (refine wpList_fresh (by rfl) 69 (by rfl) _ fresh_inner ?_; simp only [Act.put, List.setIfInBounds_toArray, List.set_cons_succ, List.set_cons_zero]; try simp only [World.size_alloc]) | ((refine wpList_store_blk (by rfl) 69 (.tmp 13) (.tmp 51) (by rfl) (0) (IC) (by rfl) (by rfl) (Blk.new _ _ _) (fI) hzI (oI) ?_; simp only [Act.put]); intro w3 X13 o3; rw [spI] at X13; have q0 := B0.lt; have q1 := B1.lt; have q2 := B2.lt; have hB' := hB.size; replace B0 := (B0.alloc _).only o3 (by omega); replace B1 := (B1.alloc _).only o3 (by omega); replace B2 := (B2.alloc _).only o3 (by omega); replace hB := o3.below (hB.alloc hB.size _) (by omega)) | (refine wpList_load_blk (by rfl) 69 (.tmp 13) (by rfl) 0 (by rfl) (X13) (IC) whole_at _ Try.underlying69 (by rfl) hzI ?_; simp only [Act.put, List.setIfInBounds_toArray, List.set_cons_succ, List.set_cons_zero]) | ((go_at_call 57; (with_reducible refine (AI.out _).mono ?_)); rintro e w1 ⟨rfl, h1⟩; replace B0 := B0.at_ h1; replace B1 := B1.at_ h1; replace B2 := B2.at_ h1; replace hB := hB.trans (h1.mono hB.size); (try replace X13 := X13.at_ h1); (try replace X18 := X18.at_ h1)) | ((refine wpList_store_blk (by rfl) 69 (.tmp 18) (.tmp 69) (by rfl) (0) (IC) (by rfl) (by rfl) (Blk.new _ _ _) (fI) hzI (oI) ?_; simp only [Act.put]); intro w4 X18 o4; rw [spI] at X18; have q0 := B0.lt; have q1 := B1.lt; have q2 := B2.lt; have q3 := X13.lt; have hB' := hB.size; replace B0 := (B0.alloc _).only o4 (by omega); replace B1 := (B1.alloc _).only o4 (by omega); replace B2 := (B2.alloc _).only o4 (by omega); replace X13 := (X13.alloc _).only o4 (by omega); replace hB := o4.below (hB.alloc hB.size _) (by omega)) | ((go_at_call 47; (with_reducible refine (AA.out _).mono ?_)); rintro e w1 ⟨rfl, h1⟩; replace B0 := B0.at_ h1; replace B1 := B1.at_ h1; replace B2 := B2.at_ h1; replace hB := hB.trans (h1.mono hB.size); (try replace X13 := X13.at_ h1); (try replace X18 := X18.at_ h1)) | (refine wpList_load_blk (by rfl) 69 (.tmp 18) (by rfl) 0 (by rfl) (X18) (IC) whole_at _ Try.underlying69 (by rfl) hzI ?_; simp only [Act.put, List.setIfInBounds_toArray, List.set_cons_succ, List.set_cons_zero]) | (refine wpList_bin (by rfl) .eql 69 69 (.tmp 80) (.tmp 81) (by rfl) (IC) (IC) (by rfl) (by rfl) guard69 (.bool true) (heq) ?_; simp only [Act.put, List.setIfInBounds_toArray, List.set_cons_succ, List.set_cons_zero]))
      go_ret
      exact ⟨rfl, hB⟩
end Go.Proofs.Ytgjmnhbkdccgpaa

/- From Cut. -/
namespace Go.Proofs.Ytgjmnhbkdccgpaa
open Go.ChangeShapes Go.WideShapes Go.ChangeAt Go.RowKit

section
variable {H : Type} {enc : TypeId × Value → H} {W : World} {base : Nat} {sp : Nat → Bool} {held : Bool} {v : Value} {d : DataW H} {p : List MemPlace}
set_option maxRecDepth 1000000 in
theorem open_text (hval : Value.okWide Try.prog W .any base 9 v) (h : DataW.Trod enc Try.prog W 0 sp held 9 v d p) : ∃ l : List UInt8, v = .string ⟨l.toArray⟩ ∧ l.length ≤ 9223372036854775807 := by
  obtain ⟨s, rfl, _, _, hs⟩ := Go.ChangeMaps.open_string Try.underlying9 hval h
  refine ⟨s.data.toList, rfl, ?_⟩
  rw [Array.length_toList]
  unfold maxLen at hs
  exact hs
set_option maxRecDepth 1000000 in
theorem open_byte (hval : Value.okWide Try.prog W .any base 5 v) (h : DataW.Trod enc Try.prog W 0 sp held 5 v d p) : ∃ b : UInt8, v = byteV b := by
  obtain ⟨n, rfl, _, _, hwf⟩ := open_int Try.underlying5 hval h
  have h2 := hwf
  simp only [Lit.wf, IntKind.min, IntKind.max, IntKind.signed, IntKind.bits, Bool.and_eq_true] at h2
  have h0 : 0 ≤ n := by have := h2.1; simpa using this
  have h1 : n ≤ 255 := by have := h2.2; simpa using this
  refine ⟨UInt8.ofNat n.toNat, ?_⟩
  unfold byteV
  rw [UInt8.toNat_ofNat']
  congr 1
  omega
end
set_option maxHeartbeats 1000000 in
/-- Cut. -/
theorem lcut_any (s : List UInt8) (n : Nat) (w : World) :
    Calls Try.prog 18 #[.string ⟨s.toArray⟩, .int .i64 (n : Int)] w fun e w' => e = .returned (.string ⟨(s.take n).toArray⟩) ∧ w = w' := by
  have hz := str_size s
  by_cases h : n < s.length
  · have d1 : decide ((n : Int) < ((⟨s.toArray⟩ : ByteArray).size : Int)) = true := by rw [hz]; simp; omega
    have d1' : decide (n < (⟨s.toArray⟩ : ByteArray).size) = true := by rw [hz]; simp; omega
    have hcut := str_upto_ s n (n : Int) rfl (by omega)
    clear hz h
    generalize s.take n = t at *
    generalize (⟨s.toArray⟩ : ByteArray) = S at *
    go_enter Try.func18, Try.ntmps18
    go_wp2
    go_ret
    exact ⟨rfl, rfl⟩
  · have d1 : decide ((n : Int) < ((⟨s.toArray⟩ : ByteArray).size : Int)) = false := by rw [hz]; simp; omega
    have d1' : decide (n < (⟨s.toArray⟩ : ByteArray).size) = false := by rw [hz]; simp; omega
    have Ht := Lib.hid (List.take_of_length_le (show s.length ≤ n by omega))
    clear hz h
    generalize hS : (⟨s.toArray⟩ : ByteArray) = S at *
    have HS := Lib.hid hS
    clear hS
    go_enter Try.func18, Try.ntmps18
    go_wp2
    go_ret
    rw [Ht.out, HS.out]
    exact ⟨rfl, rfl⟩
end Go.Proofs.Ytgjmnhbkdccgpaa

/- From NReadsA. -/
namespace Go.Proofs.Ytgjmnhbkdccgpaa
open Go.RowKit

theorem lcut_to (s : List UInt8) (n : Nat) {z : Int} (hz : (n : Int) = z) (w : World) : Calls Try.prog 18 #[.string ⟨s.toArray⟩, .int .i64 z] w fun e w' => e = .returned (.string ⟨(s.take n).toArray⟩) ∧ w = w' := by
  rw [← hz]; exact lcut_any s n w
theorem build_inner0 (w : World) : (Instr.build 69 #[]).run Try.prog w = .ok (.agg (innerC 0 zlab zlab 0 0 zlab zlab 0).toArray) w := by kernel_rfl
theorem eql61_zero (w : World) : (binOp .eql 61 (.agg (leafC zlab zlab 0).toArray) (.agg (leafC zlab zlab 0).toArray)).run Try.prog w = .ok (.bool true) w := by kernel_rfl
theorem eql69_zero (w : World) : (binOp .eql 69 (.agg (innerC 0 zlab zlab 0 0 zlab zlab 0).toArray) (.agg (innerC 0 zlab zlab 0 0 zlab zlab 0).toArray)).run Try.prog w = .ok (.bool true) w := by kernel_rfl
end Go.Proofs.Ytgjmnhbkdccgpaa

/- From NReadsB. -/
namespace Go.Proofs.Ytgjmnhbkdccgpaa
open Go.RowKit

set_option maxRecDepth 100000 in
set_option maxHeartbeats 4000000 in
theorem nreads_x (s0 : List UInt8) (hE : D.rdErr (s0.take 400) ≠ 0) (w : World) :
    Calls Try.prog 16 #[.string ⟨s0.toArray⟩] w fun e w' => e = .returned (.bool true) ∧ Below w.heap.size w w' := by
  have HC := Lib.hid (fun W => lcut_to s0 400 (z := 400) rfl W)
  have hl : (s0.take 400).length ≤ 65536 := by rw [List.length_take]; omega
  generalize s0.take 400 = s at *
  have hO : D.rdOut s = .tuple #[.agg (leafC zlab zlab 0).toArray, .agg (itemC 0 zlab zlab 0).toArray, .agg (itemC 0 zlab zlab 0).toArray, .bool false, .int .i64 (D.rdErr s)] := by unfold D.rdOut; rw [if_neg hE]
  have hV : D.rdVal s = .nilIface := by unfold D.rdVal; rw [if_neg hE]
  have NR := Lib.hid (fun W => nodeRead_any s hl W)
  have DR := Lib.hid (fun W => readD_any s hl W)
  rw [hO] at DR
  rw [hV] at NR
  generalize D.rdErr s = c at *
  have e1 : (c != 0) = true := by rw [bne_iff_ne]; exact hE
  have e2 : (c != c) = false := by simp
  have AW := Lib.hid (fun W => nawake_any W)
  have AL := Lib.hid (fun W => asLeaf_nil W)
  have AI := Lib.hid (fun W => asInner_nil W)
  have zL := leaf_sz zlab zlab 0 rfl rfl
  have zI := item_sz 0 zlab zlab 0 rfl rfl
  have fL : 0 + (leafC zlab zlab 0).toArray.size ≤ (leafC zlab zlab 0).toArray.size := by omega
  have fI : 0 + (itemC 0 zlab zlab 0).toArray.size ≤ (itemC 0 zlab zlab 0).toArray.size := by omega
  have fN : 0 + (innerC 0 zlab zlab 0 0 zlab zlab 0).toArray.size ≤ (innerC 0 zlab zlab 0 0 zlab zlab 0).toArray.size := by omega
  have oL := leafC_one2 zlab zlab 0
  have oI := itemC_one 0 zlab zlab 0
  have oN := innerC_one 0 zlab zlab 0 0 zlab zlab 0
  have sL := splice_all (leafC zlab zlab 0).toArray (leafC zlab zlab 0).toArray rfl
  have sI := splice_all (itemC 0 zlab zlab 0).toArray (itemC 0 zlab zlab 0).toArray rfl
  have sN := splice_all (innerC 0 zlab zlab 0 0 zlab zlab 0).toArray (innerC 0 zlab zlab 0 0 zlab zlab 0).toArray rfl
  have zL6 : (Try.prog.info? 61).map (·.size) = some (leafC zlab zlab 0).toArray.size := by kernel_rfl
  have zN : (Try.prog.info? 69).map (·.size) = some (innerC 0 zlab zlab 0 0 zlab zlab 0).toArray.size := by kernel_rfl
  clear hO hV hE hl
  go_enter Try.func16, Try.ntmps16
  go_wp2_with (first | (refine wpList_fresh (by rfl) 77 (by rfl) _ fresh_rleaf ?_; simp only [Act.put, List.setIfInBounds_toArray, List.set_cons_succ, List.set_cons_zero]; try simp only [World.size_alloc]) | (refine wpList_fresh (by rfl) 72 (by rfl) _ fresh_told ?_; simp only [Act.put, List.setIfInBounds_toArray, List.set_cons_succ, List.set_cons_zero]; try simp only [World.size_alloc]) | (refine wpList_fresh (by rfl) 61 (by rfl) _ fresh_leaf ?_; simp only [Act.put, List.setIfInBounds_toArray, List.set_cons_succ, List.set_cons_zero]; try simp only [World.size_alloc]) | (refine wpList_fresh (by rfl) 69 (by rfl) _ fresh_inner ?_; simp only [Act.put, List.setIfInBounds_toArray, List.set_cons_succ, List.set_cons_zero]; try simp only [World.size_alloc]) | (go_at_call 18; (with_reducible refine (HC.out _).mono ?_); go_loud (rintro e u0 ⟨rfl, rfl⟩)) | (go_at_call 54; (with_reducible refine (NR.out _).mono ?_); go_loud (rintro e u1 ⟨rfl, hu1⟩)) | (go_at_call 55; (with_reducible refine (DR.out _).mono ?_); go_loud (rintro e u2 ⟨rfl, hu2⟩; obtain ⟨l0, a0, b0, hV⟩ := three_new u2 (leafC zlab zlab 0).toArray (itemC 0 zlab zlab 0).toArray (itemC 0 zlab zlab 0).toArray 77 72 72)) | ((refine wpList_store_blk (by rfl) 77 (.tmp 5) (.tmp 24) (by rfl) (0) ((leafC zlab zlab 0).toArray) (by rfl) (by rfl) (l0) (fL) zL (oL) ?_; simp only [Act.put]); go_loud (intro u3 l1 ol1)) | ((refine wpList_store_blk (by rfl) 72 (.tmp 6) (.tmp 25) (by rfl) (0) ((itemC 0 zlab zlab 0).toArray) (by rfl) (by rfl) ((a0.only ol1 (by omega))) (fI) zI (oI) ?_; simp only [Act.put]); go_loud (intro u4 a1 oa1)) | ((refine wpList_store_blk (by rfl) 72 (.tmp 7) (.tmp 26) (by rfl) (0) ((itemC 0 zlab zlab 0).toArray) (by rfl) (by rfl) (((b0.only ol1 (by omega)).only oa1 (by omega))) (fI) zI (oI) ?_; simp only [Act.put]); go_loud (intro u5 b1 ob1; have hB5 := (hu1.trans (hu2.mono hu1.size)).trans ((ob1.below (oa1.below (ol1.below hV (by omega)) (by omega)) (by omega)).mono (by have := hu1.size; have := hu2.size; omega)))) | (go_at_call 47; (with_reducible refine (AW.out _).mono ?_); go_loud (rintro e u6 ⟨rfl, hu6⟩)) | (go_at_call 56; (with_reducible refine (AL.out _).mono ?_); go_loud (rintro e u7 ⟨rfl, hu7⟩)) | ((refine wpList_store_blk (by rfl) 61 (.tmp 10) (.tmp 39) (by rfl) (0) ((leafC zlab zlab 0).toArray) (by rfl) (by rfl) ((Blk.new _ _ _)) (fL) zL6 (oL) ?_; simp only [Act.put]); go_loud (intro u8 l8 o8; rw [sL] at l8; have hB8 := ((hB5.trans (hu6.mono hB5.size)).trans (hu7.mono (by have := hB5.size; have := hu6.size; omega))).trans ((o8.below (below_alloc1 u7 _) (Nat.le_refl _)).mono (by have := hB5.size; have := hu6.size; have := hu7.size; omega)))) | (go_at_call 57; (with_reducible refine (AI.out _).mono ?_); go_loud (rintro e u9 ⟨rfl, hu9⟩)) | ((refine wpList_store_blk (by rfl) 69 (.tmp 12) (.tmp 44) (by rfl) (0) ((innerC 0 zlab zlab 0 0 zlab zlab 0).toArray) (by rfl) (by rfl) ((Blk.new _ _ _)) (fN) zN (oN) ?_; simp only [Act.put]); go_loud (intro u10 n10 o10; rw [sN] at n10; have hB10 := (hB8.trans (hu9.mono hB8.size)).trans ((o10.below (below_alloc1 u9 _) (Nat.le_refl _)).mono (by have := hB8.size; have := hu9.size; omega)); have l10 := ((l8.at_ hu9).alloc (.cells (innerC 0 zlab zlab 0 0 zlab zlab 0).toArray 69)).only o10 (by have := l8.lt; have := hu9.size; omega))) | (refine wpList_load_blk (by rfl) 61 (.tmp 10) (by rfl) 0 (by rfl) (l10) ((leafC zlab zlab 0).toArray) whole_at _ Try.underlying61 (by rfl) zL6 ?_; simp only [Act.put, List.setIfInBounds_toArray, List.set_cons_succ, List.set_cons_zero]) | (refine wpList_load_blk (by rfl) 69 (.tmp 12) (by rfl) 0 (by rfl) (n10) ((innerC 0 zlab zlab 0 0 zlab zlab 0).toArray) whole_at _ Try.underlying69 (by rfl) zN ?_; simp only [Act.put, List.setIfInBounds_toArray, List.set_cons_succ, List.set_cons_zero]) | (refine wpList_build (by rfl) 61 ([]) (by rfl) ([]) (by rfl) (.agg (leafC zlab zlab 0).toArray) (build_leaf0) ?_; simp only [Act.put, List.setIfInBounds_toArray, List.set_cons_succ, List.set_cons_zero]) | (refine wpList_build (by rfl) 69 ([]) (by rfl) ([]) (by rfl) (.agg (innerC 0 zlab zlab 0 0 zlab zlab 0).toArray) (build_inner0) ?_; simp only [Act.put, List.setIfInBounds_toArray, List.set_cons_succ, List.set_cons_zero]) | (refine wpList_bin (by rfl) .eql 61 61 (.tmp 55) (.tmp 56) (by rfl) ((leafC zlab zlab 0).toArray) ((leafC zlab zlab 0).toArray) (by rfl) (by rfl) guard61 (.bool true) (eql61_zero) ?_; simp only [Act.put, List.setIfInBounds_toArray, List.set_cons_succ, List.set_cons_zero]) | (refine wpList_bin (by rfl) .eql 69 69 (.tmp 60) (.tmp 61) (by rfl) ((innerC 0 zlab zlab 0 0 zlab zlab 0).toArray) ((innerC 0 zlab zlab 0 0 zlab zlab 0).toArray) (by rfl) (by rfl) guard69 (.bool true) (eql69_zero) ?_; simp only [Act.put, List.setIfInBounds_toArray, List.set_cons_succ, List.set_cons_zero]))
  go_ret
  exact ⟨rfl, hB10⟩
end Go.Proofs.Ytgjmnhbkdccgpaa

/- From NReadsC. -/
namespace Go.Proofs.Ytgjmnhbkdccgpaa
open Go.RowKit

set_option maxRecDepth 100000 in
set_option maxHeartbeats 4000000 in
theorem nreads_leaf (s0 : List UInt8) (hE : D.rdErr (s0.take 400) = 0) (l v : List UInt8) (t : Nat) (hN : (D.rnode (s0.take 400)).1 = .leaf l v t) (l1 : l.length = 32) (l2 : v.length = 32) (ht : t < 9223372036854775808) (w : World) :
    Calls Try.prog 16 #[.string ⟨s0.toArray⟩] w fun e w' => e = .returned (.bool true) ∧ Below w.heap.size w w' := by
  have HC := Lib.hid (fun W => lcut_to s0 400 (z := 400) rfl W)
  have hl : (s0.take 400).length ≤ 65536 := by rw [List.length_take]; omega
  generalize s0.take 400 = s at *
  have hO : D.rdOut s = .tuple #[.agg (leafC l v (t : Int)).toArray, .agg (itemC 0 zlab zlab 0).toArray, .agg (itemC 0 zlab zlab 0).toArray, .bool false, .int .i64 0] := by unfold D.rdOut; rw [if_pos hE, hN]; rfl
  have hV : D.rdVal s = .iface 61 (.agg (leafC l v (t : Int)).toArray) := by unfold D.rdVal; rw [if_pos hE, hN]; rfl
  have NR := Lib.hid (fun W => nodeRead_any s hl W)
  have DR := Lib.hid (fun W => readD_any s hl W)
  rw [hO] at DR
  rw [hV, hE] at NR
  have e1 : ((0 : Int) != 0) = false := rfl
  have AW := Lib.hid (fun W => nawake_any W)
  have AL := Lib.hid (fun W => asLeaf_leaf l v (t : Int) l1 l2 W)
  have AI := Lib.hid (fun W => asInner_leaf (.agg (leafC l v (t : Int)).toArray) W)
  have zL := leaf_sz zlab zlab 0 rfl rfl
  have zI := item_sz 0 zlab zlab 0 rfl rfl
  have fL : 0 + (leafC zlab zlab 0).toArray.size ≤ (leafC zlab zlab 0).toArray.size := by omega
  have fI : 0 + (itemC 0 zlab zlab 0).toArray.size ≤ (itemC 0 zlab zlab 0).toArray.size := by omega
  have fN : 0 + (innerC 0 zlab zlab 0 0 zlab zlab 0).toArray.size ≤ (innerC 0 zlab zlab 0 0 zlab zlab 0).toArray.size := by omega
  have oL := leafC_one2 zlab zlab 0
  have oI := itemC_one 0 zlab zlab 0
  have oN := innerC_one 0 zlab zlab 0 0 zlab zlab 0
  have sL := splice_all (leafC zlab zlab 0).toArray (leafC zlab zlab 0).toArray rfl
  have sI := splice_all (itemC 0 zlab zlab 0).toArray (itemC 0 zlab zlab 0).toArray rfl
  have sN := splice_all (innerC 0 zlab zlab 0 0 zlab zlab 0).toArray (innerC 0 zlab zlab 0 0 zlab zlab 0).toArray rfl
  have zL6 : (Try.prog.info? 61).map (·.size) = some (leafC zlab zlab 0).toArray.size := by kernel_rfl
  have zN : (Try.prog.info? 69).map (·.size) = some (innerC 0 zlab zlab 0 0 zlab zlab 0).toArray.size := by kernel_rfl
  have hwf : (Lit.int .i64 (t : Int)).wf = true := wf_nat ht
  have heq : ∀ W : World, (binOp .eql 77 (.agg (leafC l v (t : Int)).toArray) (.agg (leafC l v (t : Int)).toArray)).run Try.prog W = .ok (.bool true) W := fun W => (eql77 l v t l v t l1 l2 hwf l1 l2 hwf W).trans (by rw [show D.eqLeaf l v t l v t = true by simp [D.eqLeaf]])
  have zV := leaf_sz l v (t : Int) l1 l2
  have zV6 : (Try.prog.info? 61).map (·.size) = some (leafC l v (t : Int)).toArray.size := by rw [List.size_toArray, leafC_length l v t l1 l2]; exact info_leaf
  have qV := leaf_fit l v (t : Int) zlab zlab 0 l1 l2 rfl rfl
  have fV : 0 + (leafC l v (t : Int)).toArray.size ≤ (leafC zlab zlab 0).toArray.size := by omega
  have oV := leafC_one2 l v (t : Int)
  have sV := splice_all (leafC zlab zlab 0).toArray (leafC l v (t : Int)).toArray qV.symm
  clear hN ht hwf
  clear hO hV hE hl
  go_enter Try.func16, Try.ntmps16
  go_wp2_with (first | (refine wpList_fresh (by rfl) 77 (by rfl) _ fresh_rleaf ?_; simp only [Act.put, List.setIfInBounds_toArray, List.set_cons_succ, List.set_cons_zero]; try simp only [World.size_alloc]) | (refine wpList_fresh (by rfl) 72 (by rfl) _ fresh_told ?_; simp only [Act.put, List.setIfInBounds_toArray, List.set_cons_succ, List.set_cons_zero]; try simp only [World.size_alloc]) | (refine wpList_fresh (by rfl) 61 (by rfl) _ fresh_leaf ?_; simp only [Act.put, List.setIfInBounds_toArray, List.set_cons_succ, List.set_cons_zero]; try simp only [World.size_alloc]) | (refine wpList_fresh (by rfl) 69 (by rfl) _ fresh_inner ?_; simp only [Act.put, List.setIfInBounds_toArray, List.set_cons_succ, List.set_cons_zero]; try simp only [World.size_alloc]) | (go_at_call 18; (with_reducible refine (HC.out _).mono ?_); go_loud (rintro e u0 ⟨rfl, rfl⟩)) | (go_at_call 54; (with_reducible refine (NR.out _).mono ?_); go_loud (rintro e u1 ⟨rfl, hu1⟩)) | (go_at_call 55; (with_reducible refine (DR.out _).mono ?_); go_loud (rintro e u2 ⟨rfl, hu2⟩; obtain ⟨l0, a0, b0, hV⟩ := three_new u2 (leafC zlab zlab 0).toArray (itemC 0 zlab zlab 0).toArray (itemC 0 zlab zlab 0).toArray 77 72 72)) | ((refine wpList_store_blk (by rfl) 77 (.tmp 5) (.tmp 24) (by rfl) (0) ((leafC l v (t : Int)).toArray) (by rfl) (by rfl) (l0) (fV) zV (oV) ?_; simp only [Act.put]); go_loud (intro u3 k1 ol1; rw [sV] at k1)) | ((refine wpList_store_blk (by rfl) 72 (.tmp 6) (.tmp 25) (by rfl) (0) ((itemC 0 zlab zlab 0).toArray) (by rfl) (by rfl) ((a0.only ol1 (by omega))) (fI) zI (oI) ?_; simp only [Act.put]); go_loud (intro u4 a1 oa1)) | ((refine wpList_store_blk (by rfl) 72 (.tmp 7) (.tmp 26) (by rfl) (0) ((itemC 0 zlab zlab 0).toArray) (by rfl) (by rfl) (((b0.only ol1 (by omega)).only oa1 (by omega))) (fI) zI (oI) ?_; simp only [Act.put]); go_loud (intro u5 b1 ob1; have k5 := (k1.only oa1 (by omega)).only ob1 (by omega); have hB5 := (hu1.trans (hu2.mono hu1.size)).trans ((ob1.below (oa1.below (ol1.below hV (by omega)) (by omega)) (by omega)).mono (by have := hu1.size; have := hu2.size; omega)))) | (go_at_call 47; (with_reducible refine (AW.out _).mono ?_); go_loud (rintro e u6 ⟨rfl, hu6⟩)) | (go_at_call 56; (with_reducible refine (AL.out _).mono ?_); go_loud (rintro e u7 ⟨rfl, hu7⟩)) | ((refine wpList_store_blk (by rfl) 61 (.tmp 10) (.tmp 39) (by rfl) (0) ((leafC l v (t : Int)).toArray) (by rfl) (by rfl) ((Blk.new _ _ _)) (fV) zV6 (oV) ?_; simp only [Act.put]); go_loud (intro u8 l8 o8; rw [sV] at l8; have k8 := (((k5.at_ hu6).at_ hu7).alloc (.cells (leafC zlab zlab 0).toArray 61)).only o8 (by have := k5.lt; have := hu6.size; have := hu7.size; omega); have hB8 := ((hB5.trans (hu6.mono hB5.size)).trans (hu7.mono (by have := hB5.size; have := hu6.size; omega))).trans ((o8.below (below_alloc1 u7 _) (Nat.le_refl _)).mono (by have := hB5.size; have := hu6.size; have := hu7.size; omega)))) | (go_at_call 57; (with_reducible refine (AI.out _).mono ?_); go_loud (rintro e u9 ⟨rfl, hu9⟩)) | ((refine wpList_store_blk (by rfl) 69 (.tmp 12) (.tmp 44) (by rfl) (0) ((innerC 0 zlab zlab 0 0 zlab zlab 0).toArray) (by rfl) (by rfl) ((Blk.new _ _ _)) (fN) zN (oN) ?_; simp only [Act.put]); go_loud (intro u10 n10 o10; rw [sN] at n10; have hB10 := (hB8.trans (hu9.mono hB8.size)).trans ((o10.below (below_alloc1 u9 _) (Nat.le_refl _)).mono (by have := hB8.size; have := hu9.size; omega)); have k10 := ((k8.at_ hu9).alloc (.cells (innerC 0 zlab zlab 0 0 zlab zlab 0).toArray 69)).only o10 (by have := k8.lt; have := hu9.size; omega); have l10 := ((l8.at_ hu9).alloc (.cells (innerC 0 zlab zlab 0 0 zlab zlab 0).toArray 69)).only o10 (by have := l8.lt; have := hu9.size; omega))) | (refine wpList_load_blk (by rfl) 61 (.tmp 10) (by rfl) 0 (by rfl) (l10) ((leafC l v (t : Int)).toArray) whole_at _ Try.underlying61 (by rfl) zV6 ?_; simp only [Act.put, List.setIfInBounds_toArray, List.set_cons_succ, List.set_cons_zero]) | (refine wpList_load_blk (by rfl) 77 (.tmp 5) (by rfl) 0 (by rfl) (k10) ((leafC l v (t : Int)).toArray) whole_at _ Try.underlying77 (by rfl) zV ?_; simp only [Act.put, List.setIfInBounds_toArray, List.set_cons_succ, List.set_cons_zero]) | (refine wpList_bin (by rfl) .eql 77 77 (.tmp 90) (.tmp 91) (by rfl) ((leafC l v (t : Int)).toArray) ((leafC l v (t : Int)).toArray) (by rfl) (by rfl) guard77 (.bool true) (heq) ?_; simp only [Act.put, List.setIfInBounds_toArray, List.set_cons_succ, List.set_cons_zero]))
  go_ret
  exact ⟨rfl, hB10⟩
end Go.Proofs.Ytgjmnhbkdccgpaa
