/- Drawn regions that make two new variables and write each once: what holds in the midst, whatever the order. The walk of node.Check. The walk of node.Check, of an inner node. -/
import Derived.Test.YtgjmnhbkdccgpaaRelL
import Derived.Test.YtgjmnhbkdccgpaaKit6
import Derived.Test.YtgjmnhbkdccgpaaWNGood
namespace Go.Proofs.Ytgjmnhbkdccgpaa
open Go.RowKit

/-- A new variable: which operation makes it, its slot, which operation writes it; its cells before and after. -/
structure NewV where
  i : Nat
  d : Nat
  s : Nat
  z : Array Value
  C : Array Value
  t : TypeId
/-- The two in the region's midst. -/
structure Ph2 (N M g0 : Nat) (X Y : NewV) (L : Array Bool) (a : Act) (w : World) : Prop where
  siz : a.tmps.size = N
  lsz : L.size = M
  one : L.getD X.i false = true → ∃ b, a.tmps.getD X.d undef = .pointer (some ⟨b, 0, none⟩) ∧ g0 ≤ b ∧ Blk w b (if L.getD X.s false then X.C else X.z) X.t
  two : L.getD Y.i false = true → ∃ b, a.tmps.getD Y.d undef = .pointer (some ⟨b, 0, none⟩) ∧ g0 ≤ b ∧ Blk w b (if L.getD Y.s false then Y.C else Y.z) Y.t
  ne : L.getD X.i false = true → L.getD Y.i false = true → a.tmps.getD X.d undef ≠ a.tmps.getD Y.d undef
theorem Ph2.swap {N M g0 : Nat} {X Y : NewV} {L : Array Bool} {a : Act} {w : World} (h : Ph2 N M g0 X Y L a w) : Ph2 N M g0 Y X L a w := ⟨h.siz, h.lsz, h.two, h.one, fun p q => (h.ne q p).symm⟩
theorem Ph2.start {g0 M : Nat} {X Y : NewV} (a : Act) (w : World) : Ph2 a.tmps.size M g0 X Y (Array.replicate M false) a w := by
  have h : ∀ i, (Array.replicate M false).getD i false = false := fun i => by
    by_cases h : i < M <;> simp [h]
  refine ⟨rfl, by simp, fun h0 => ?_, fun h0 => ?_, fun h0 => ?_⟩ <;> (rw [h] at h0; cases h0)
theorem setL_ne (L : Array Bool) (i j : Nat) (h : i ≠ j) : (L.setIfInBounds i true).getD j false = L.getD j false := by
  simp [Array.getElem?_setIfInBounds_ne h]
theorem put_size' (a : Act) (d : Option Tmp) (v : Value) : (a.put d v).tmps.size = a.tmps.size := by cases d <;> simp [Act.put]
theorem put_other' (a : Act) (d : Option Tmp) (v : Value) (k : Nat) (h : d ≠ some k) : (a.put d v).tmps.getD k undef = a.tmps.getD k undef := by
  cases d with
  | none => rfl
  | some d =>
    have : d ≠ k := fun e => h (by rw [e])
    simp [Act.put, Array.getElem?_setIfInBounds_ne this]
theorem Ph2.other {N M g0 : Nat} {X Y : NewV} {L : Array Bool} {a : Act} {w w1 : World} {i : Nat} {d : Option Tmp} {v : Value} (h : Ph2 N M g0 X Y L a w) (hs : Stp w w1)
    (hn : i ≠ X.i ∧ i ≠ X.s ∧ i ≠ Y.i ∧ i ≠ Y.s) (hd : d ≠ some X.d ∧ d ≠ some Y.d) : Ph2 N M g0 X Y (L.setIfInBounds i true) (a.put d v) w1 := by
  obtain ⟨n1, n2, n3, n4⟩ := hn
  refine ⟨(put_size' ..).trans h.siz, by simp [h.lsz], ?_, ?_, ?_⟩
  · rw [setL_ne _ _ _ n1, setL_ne _ _ _ n2, put_other' _ _ _ _ hd.1]
    intro h0
    obtain ⟨b, e, hg, B⟩ := h.one h0
    exact ⟨b, e, hg, B.at_ hs⟩
  · rw [setL_ne _ _ _ n3, setL_ne _ _ _ n4, put_other' _ _ _ _ hd.2]
    intro h0
    obtain ⟨b, e, hg, B⟩ := h.two h0
    exact ⟨b, e, hg, B.at_ hs⟩
  · rw [setL_ne _ _ _ n1, setL_ne _ _ _ n3, put_other' _ _ _ _ hd.1, put_other' _ _ _ _ hd.2]
    exact h.ne
theorem Ph2.make {N M g0 : Nat} {X Y : NewV} {L : Array Bool} {a : Act} {w : World} (h : Ph2 N M g0 X Y L a w) (hg0 : g0 ≤ w.heap.size) (hl : L.getD X.s false = false) (hd : X.d < N)
    (hn : X.i ≠ X.s ∧ X.i ≠ Y.i ∧ X.i ≠ Y.s ∧ X.d ≠ Y.d) : Ph2 N M g0 X Y (L.setIfInBounds X.i true) (a.put (some X.d) (.pointer (some ⟨w.heap.size, 0, none⟩))) (w.alloc (.cells X.z X.t)) := by
  obtain ⟨n1, n2, n3, n4⟩ := hn
  have eX : (a.put (some X.d) (.pointer (some ⟨w.heap.size, 0, none⟩))).tmps.getD X.d undef = .pointer (some ⟨w.heap.size, 0, none⟩) := by rw [put_getD _ _ _ _ (by rw [h.siz]; exact hd), if_pos rfl]
  have eY : (a.put (some X.d) (.pointer (some ⟨w.heap.size, 0, none⟩))).tmps.getD Y.d undef = a.tmps.getD Y.d undef := put_other' _ _ _ _ (fun e => n4 (by injection e))
  refine ⟨(put_size' ..).trans h.siz, by simp [h.lsz], ?_, ?_, ?_⟩
  · intro _
    rw [setL_ne _ _ _ n1, hl, eX]
    exact ⟨_, rfl, hg0, Blk.new w _ _⟩
  · rw [setL_ne _ _ _ n2, setL_ne _ _ _ n3, eY]
    intro h0
    obtain ⟨b, e, hg, B⟩ := h.two h0
    exact ⟨b, e, hg, B.alloc _⟩
  · rw [setL_ne _ _ _ n2, eX, eY]
    intro _ h0 he
    obtain ⟨b, e, hg, B⟩ := h.two h0
    rw [e] at he
    injection he with he; injection he with he; injection he with he
    have := B.lt
    omega
theorem Ph2.write {N M g0 : Nat} {X Y : NewV} {L : Array Bool} {a : Act} {w w1 : World} {b : Nat} {v : Value} (h : Ph2 N M g0 X Y L a w) (he : a.tmps.getD X.d undef = .pointer (some ⟨b, 0, none⟩)) (hb : g0 ≤ b) (hi : L.getD X.i false = true) (hs : X.s < M)
    (B1 : Blk w1 b X.C X.t) (ho : Only b w w1) (hn : X.s ≠ X.i ∧ X.s ≠ Y.i ∧ X.s ≠ Y.s) : Ph2 N M g0 X Y (L.setIfInBounds X.s true) (a.put none v) w1 := by
  obtain ⟨n1, n2, n3⟩ := hn
  refine ⟨h.siz, by simp [h.lsz], ?_, ?_, ?_⟩
  · intro _
    rw [setL _ _ _ (by rw [h.lsz]; exact hs), if_pos rfl]
    exact ⟨b, he, hb, B1⟩
  · rw [setL_ne _ _ _ n2, setL_ne _ _ _ n3]
    intro h0
    obtain ⟨b2, e, hg, B⟩ := h.two h0
    refine ⟨b2, e, hg, B.only ho fun hne => h.ne hi h0 ?_⟩
    rw [he, e, hne]
  · rw [setL_ne _ _ _ n1, setL_ne _ _ _ n2]
    exact h.ne
/-- Steps that change nothing of what lay below. -/
def StpG (g0 : Nat) (a w : World) : Prop := Below g0 a w
theorem StpG.refl (g0 : Nat) (a : World) : StpG g0 a a := Below.refl _ _
theorem StpG.trans {g0 : Nat} (a b c : World) (h : StpG g0 a b) (k : StpG g0 b c) : StpG g0 a c := Below.trans h k
theorem StpG.of {g0 : Nat} {a b : World} (h : Stp a b) (hg : g0 ≤ a.heap.size) : StpG g0 a b := ⟨h.os, h.tape, h.output, h.size, fun k hk => h.block k (Nat.lt_of_lt_of_le hk hg)⟩
theorem StpG.only {g0 b : Nat} {a w : World} (h : Only b a w) (hg : g0 ≤ b) : StpG g0 a w := h.below (Below.refl _ _) hg
end Go.Proofs.Ytgjmnhbkdccgpaa
namespace Go.Proofs.Ytgjmnhbkdccgpaa
open Go.RowKit

/-- An asserted type, as one step. -/
theorem wpList_assert {P : Program} {ops : Array Oper} {rest : List Oper} {o : Oper} {a : Act} {w : World} {Q : Exit → Act → World → Prop} (hw : Region.wanted o (yielded ops a.tmps) = true) (x : Operand) (xt t : TypeId) (c : Bool) (ho : o.op = .typeAssert x xt t c)
    (u : Value) (hx : a.eval x = u) (v : Value) (hr : ∀ w, (Instr.typeAssert u xt t c).run P w = .ok v w) (hk : wpList P ops Q rest (a.put o.dst v) w) : wpList P ops Q (o :: rest) a w :=
  BigFrame.wpList_want hw fun _ hK => by
    unfold Oper.wp execOp
    simp only [ho, hx, hr, Sem.run_bind, Result.andThen_ok, Sem.run_pure]
    exact hK _ _ hk
theorem as61_yes (v : Value) (w : World) : (Instr.typeAssert (.iface 61 v) 83 61 true).run Try.prog w = .ok (.tuple #[v, .bool true]) w := by kernel_rfl
theorem as61_no (v : Value) (w : World) : (Instr.typeAssert (.iface 69 v) 83 61 true).run Try.prog w = .ok (.tuple #[.agg (leafC zlab zlab 0).toArray, .bool false]) w := by kernel_rfl
theorem as61_nil (w : World) : (Instr.typeAssert .nilIface 83 61 true).run Try.prog w = .ok (.tuple #[.agg (leafC zlab zlab 0).toArray, .bool false]) w := by kernel_rfl
theorem as69_yes (v : Value) (w : World) : (Instr.typeAssert (.iface 69 v) 83 69 true).run Try.prog w = .ok (.tuple #[v, .bool true]) w := by kernel_rfl
theorem as69_no (v : Value) (w : World) : (Instr.typeAssert (.iface 61 v) 83 69 true).run Try.prog w = .ok (.tuple #[.agg (innerC 0 zlab zlab 0 0 zlab zlab 0).toArray, .bool false]) w := by kernel_rfl
theorem as69_nil (w : World) : (Instr.typeAssert .nilIface 83 69 true).run Try.prog w = .ok (.tuple #[.agg (innerC 0 zlab zlab 0 0 zlab zlab 0).toArray, .bool false]) w := by kernel_rfl
theorem fresh_leaf (w : World) : (Instr.alloc 61 true (.tuple #[])).run Try.prog w = .ok (.pointer (some ⟨w.heap.size, 0, none⟩)) (w.alloc (.cells (leafC zlab zlab 0).toArray 61)) := by kernel_rfl
theorem fresh_inner (w : World) : (Instr.alloc 69 true (.tuple #[])).run Try.prog w = .ok (.pointer (some ⟨w.heap.size, 0, none⟩)) (w.alloc (.cells (innerC 0 zlab zlab 0 0 zlab zlab 0).toArray 69)) := by kernel_rfl
theorem leafC_one (l v : List UInt8) (t : Int) : (leafC l v t).toArray.all (·.oneCell') = true := by
  rw [Array.all_eq_true']
  intro x hx
  rw [List.mem_toArray] at hx
  unfold leafC at hx
  simp only [List.mem_append, List.mem_map, List.mem_singleton] at hx
  rcases hx with (⟨b, _, rfl⟩ | ⟨b, _, rfl⟩) | rfl <;> rfl

namespace D
/-- The error's number of a leaf; of two items. -/
def leafE (t : Int) : Int := if 0 ≤ t ∧ t ≤ 1073741824 then 0 else 1
end D
set_option maxRecDepth 100000 in
set_option maxHeartbeats 1000000 in
theorem chkLeaf_any (l v : List UInt8) (t : Int) (hl : l.length = 32) (hv : v.length = 32) (w : World) :
    Calls Try.prog 69 #[.iface 61 (.agg (leafC l v t).toArray)] w fun e w' => e = .returned (.int .i64 (D.leafE t)) ∧ Below w.heap.size w w' := by
  have hsl : (Try.prog.info? 61).map (·.size) = some (leafC l v t).toArray.size := by rw [List.size_toArray, leafC_length l v t hl hv]; exact info_leaf
  have hfit : 0 + (leafC l v t).toArray.size ≤ (leafC zlab zlab 0).toArray.size := by rw [List.size_toArray, List.size_toArray, leafC_length l v t hl hv, leafC_length zlab zlab 0 rfl rfl]; decide
  have h64 : (leafC l v t).toArray[64]? = some (.int .i64 t) := by rw [List.getElem?_toArray]; exact leafC_at l v t hl hv
  have h1 := leafC_one l v t
  have hsp := splice_all (leafC zlab zlab 0).toArray (leafC l v t).toArray (by rw [List.size_toArray, List.size_toArray, leafC_length l v t hl hv, leafC_length zlab zlab 0 rfl rfl])
  have hR : D.leafE t = if 0 ≤ t ∧ t ≤ 1073741824 then 0 else 1 := rfl
  generalize D.leafE t = R at *
  generalize (leafC l v t).toArray = C at *
  have B0 := Blk.new w (leafC zlab zlab 0).toArray 61
  have hB := below_alloc1 w (.cells (leafC zlab zlab 0).toArray 61)
  by_cases c1 : t < 0
  · have d1 : decide (t < 0) = true := by simp; omega
    rw [if_neg (by omega)] at hR
    subst hR
    go_enter Try.func69, Try.ntmps69
    go_wp2_with (first | (refine wpList_assert (by rfl) (.tmp 8) _ _ _ (by rfl) (.iface 61 (.agg C)) (by rfl) _ (as61_yes _) ?_; simp only [Act.put, List.setIfInBounds_toArray, List.set_cons_succ, List.set_cons_zero]) | (refine wpList_fresh (by rfl) 61 (by rfl) _ fresh_leaf ?_; simp only [Act.put, List.setIfInBounds_toArray, List.set_cons_succ, List.set_cons_zero]; try simp only [World.size_alloc]) | ((refine wpList_store_blk (by rfl) 61 (.tmp 3) (.tmp 11) (by rfl) (0) (C) (by rfl) (by rfl) (B0) (hfit) hsl (h1) ?_; simp only [Act.put]); intro w9 b9 o9; rw [hsp] at b9; have k9 : w9.cell? ⟨w.heap.size, 64, none⟩ = some (.int .i64 t) := (b9.cell 64).trans h64))
    go_ret
    exact ⟨rfl, o9.below hB (Nat.le_refl _)⟩
  · have d1 : decide (t < 0) = false := by simp; omega
    by_cases c2 : 1073741824 < t
    · have d2 : decide (1073741824 < t) = true := by simp; omega
      have d2' : decide (t > 1073741824) = true := by simp; omega
      rw [if_neg (by omega)] at hR
      subst hR
      go_enter Try.func69, Try.ntmps69
      go_wp2_with (first | (refine wpList_assert (by rfl) (.tmp 8) _ _ _ (by rfl) (.iface 61 (.agg C)) (by rfl) _ (as61_yes _) ?_; simp only [Act.put, List.setIfInBounds_toArray, List.set_cons_succ, List.set_cons_zero]) | (refine wpList_fresh (by rfl) 61 (by rfl) _ fresh_leaf ?_; simp only [Act.put, List.setIfInBounds_toArray, List.set_cons_succ, List.set_cons_zero]; try simp only [World.size_alloc]) | ((refine wpList_store_blk (by rfl) 61 (.tmp 3) (.tmp 11) (by rfl) (0) (C) (by rfl) (by rfl) (B0) (hfit) hsl (h1) ?_; simp only [Act.put]); intro w9 b9 o9; rw [hsp] at b9; have k9 : w9.cell? ⟨w.heap.size, 64, none⟩ = some (.int .i64 t) := (b9.cell 64).trans h64))
      go_ret
      exact ⟨rfl, o9.below hB (Nat.le_refl _)⟩
    · have d2 : decide (1073741824 < t) = false := by simp; omega
      have d2' : decide (t > 1073741824) = false := by simp; omega
      rw [if_pos (by omega)] at hR
      subst hR
      go_enter Try.func69, Try.ntmps69
      go_wp2_with (first | (refine wpList_assert (by rfl) (.tmp 8) _ _ _ (by rfl) (.iface 61 (.agg C)) (by rfl) _ (as61_yes _) ?_; simp only [Act.put, List.setIfInBounds_toArray, List.set_cons_succ, List.set_cons_zero]) | (refine wpList_fresh (by rfl) 61 (by rfl) _ fresh_leaf ?_; simp only [Act.put, List.setIfInBounds_toArray, List.set_cons_succ, List.set_cons_zero]; try simp only [World.size_alloc]) | ((refine wpList_store_blk (by rfl) 61 (.tmp 3) (.tmp 11) (by rfl) (0) (C) (by rfl) (by rfl) (B0) (hfit) hsl (h1) ?_; simp only [Act.put]); intro w9 b9 o9; rw [hsp] at b9; have k9 : w9.cell? ⟨w.heap.size, 64, none⟩ = some (.int .i64 t) := (b9.cell 64).trans h64))
      go_ret
      exact ⟨rfl, o9.below hB (Nat.le_refl _)⟩
theorem chkNil_any (w : World) : Calls Try.prog 69 #[.nilIface] w fun e w' => e = .returned (.int .i64 3) ∧ Below w.heap.size w w' := by
  go_enter Try.func69, Try.ntmps69
  go_wp2_with (first | (refine wpList_assert (by rfl) (.tmp 8) _ _ _ (by rfl) .nilIface (by rfl) _ as61_nil ?_; simp only [Act.put, List.setIfInBounds_toArray, List.set_cons_succ, List.set_cons_zero]) | (refine wpList_assert (by rfl) (.tmp 8) _ _ _ (by rfl) .nilIface (by rfl) _ as69_nil ?_; simp only [Act.put, List.setIfInBounds_toArray, List.set_cons_succ, List.set_cons_zero]))
  go_ret
  exact ⟨rfl, Below.refl _ _⟩
end Go.Proofs.Ytgjmnhbkdccgpaa
namespace Go.Proofs.Ytgjmnhbkdccgpaa
open Go.RowKit

theorem Ph2.start' {g0 M N m : Nat} {X Y : NewV} (a : Act) (w : World) (h : a.tmps.size = N) (hm : m = M) : Ph2 N M g0 X Y (Array.replicate m false) a w := by
  subst h hm; exact Ph2.start a w
/-- A row into a block that is known whole, as one step. -/
theorem wp_store_blk {P : Program} {o : Oper} {a : Act} {w : World} {Q : Exit → Act → World → Prop} {K : Act → World → Prop} {g : Nat} {t : TypeId} (ty : TypeId) (x y : Operand) (ho : o.op = .store ty x y)
    (off : Nat) (cs : Array Value) (hx : a.eval x = .pointer (some ⟨g, off, none⟩)) (hy : a.eval y = .agg cs) {C : Array Value} (h : Blk w g C t) (hle : off + cs.size ≤ C.size)
    (hi : (P.info? ty).map (·.size) = some cs.size) (h1 : cs.all (·.oneCell') = true)
    (hk : ∀ w' : World, Blk w' g (splice C off cs) t → Only g w w' → K (a.put o.dst undef) w') : o.wp P a w K Q := by
  refine wp_store_mid ty x y ho g off cs hx hy (fun j hj => ⟨?_, h.free _⟩) hi h1 ?_
  · rw [h.cell, Array.getElem?_eq_getElem (by omega)]; rfl
  · have := setCells_blk (g := g) (t := t) cs.toList w off C h (by simpa using hle)
    exact hk _ (by simpa using this.1) this.2
theorem range_g {w w' : World} {g g0 o : Nat} {cs : List Value} (h : w.rangeAt g o cs) (hg : g < g0) (hb : Below g0 w w') : w'.rangeAt g o cs := fun j u hj => (hb.cell (p := ⟨g, o + j, none⟩) hg).trans (h j u hj)
theorem itemC_prefA (n : Int) (p s : List UInt8) (t : Int) (j : Nat) (u : Value) (h : (prefA n p).toList[j]? = some u) : (itemC n p s t)[j]? = some u := by
  unfold itemC
  unfold prefA at h
  match j with
  | 0 => exact h
  | j + 1 =>
    have h' : (p.map byteV)[j]? = some u := h
    have hj := (List.getElem?_eq_some_iff.1 h').1
    rw [List.getElem?_cons_succ, List.append_assoc, List.getElem?_append_left hj]
    exact h'
theorem innerC_size (n : Int) (p s : List UInt8) (t : Int) (n' : Int) (p' s' : List UInt8) (t' : Int) (hp : p.length = 32) (hs : s.length = 32) (hp' : p'.length = 32) (hs' : s'.length = 32) : (innerC n p s t n' p' s' t').toArray.size = 132 := by
  rw [List.size_toArray]; unfold innerC; rw [List.length_append, itemC_length n p s t hp hs, itemC_length n' p' s' t' hp' hs']
theorem innerC_one (n : Int) (p s : List UInt8) (t : Int) (n' : Int) (p' s' : List UInt8) (t' : Int) : (innerC n p s t n' p' s' t').toArray.all (·.oneCell') = true := by
  rw [Array.all_eq_true']
  intro x hx
  rw [List.mem_toArray] at hx
  unfold innerC itemC at hx
  simp only [List.mem_append, List.mem_map, List.mem_cons, List.not_mem_nil, or_false] at hx
  rcases hx with (rfl | (⟨b, _, rfl⟩ | ⟨b, _, rfl⟩) | rfl) | (rfl | (⟨b, _, rfl⟩ | ⟨b, _, rfl⟩) | rfl) <;> rfl
theorem innerC_left (n : Int) (p s : List UInt8) (t : Int) (n' : Int) (p' s' : List UInt8) (t' : Int) (j : Nat) (u : Value) (h : (itemC n p s t)[j]? = some u) : (innerC n p s t n' p' s' t')[j]? = some u := by
  unfold innerC; rw [List.getElem?_append_left (List.getElem?_eq_some_iff.1 h).1]; exact h
theorem innerC_right (n : Int) (p s : List UInt8) (t : Int) (n' : Int) (p' s' : List UInt8) (t' : Int) (hp : p.length = 32) (hs : s.length = 32) (j : Nat) (u : Value) (h : (itemC n' p' s' t')[j]? = some u) : (innerC n p s t n' p' s' t')[66 + j]? = some u := by
  unfold innerC; rw [List.getElem?_append_right (by rw [itemC_length n p s t hp hs]; omega), itemC_length n p s t hp hs, Nat.add_sub_cancel_left]; exact h
theorem innerC_itemL (n : Int) (p s : List UInt8) (t : Int) (n' : Int) (p' s' : List UInt8) (t' : Int) : ∀ j, j < (itemC n p s t).toArray.size → (innerC n p s t n' p' s' t').toArray[0 + j]? = (itemC n p s t).toArray[j]? := fun j hj => by
  rw [Nat.zero_add, List.getElem?_toArray, List.getElem?_toArray]
  rw [List.size_toArray] at hj
  rw [List.getElem?_eq_getElem hj]
  exact innerC_left n p s t n' p' s' t' j _ (List.getElem?_eq_getElem hj)
theorem innerC_itemR (n : Int) (p s : List UInt8) (t : Int) (n' : Int) (p' s' : List UInt8) (t' : Int) (hp : p.length = 32) (hs : s.length = 32) : ∀ j, j < (itemC n' p' s' t').toArray.size → (innerC n p s t n' p' s' t').toArray[66 + j]? = (itemC n' p' s' t').toArray[j]? := fun j hj => by
  rw [List.getElem?_toArray, List.getElem?_toArray]
  rw [List.size_toArray] at hj
  rw [List.getElem?_eq_getElem hj]
  exact innerC_right n p s t n' p' s' t' hp hs j _ (List.getElem?_eq_getElem hj)

theorem StpG.le {g0 : Nat} {a w : World} (h : StpG g0 a.drew w) : a.heap.size ≤ w.heap.size := by unfold StpG at h; exact h.size
theorem bef_of {ops : List Oper} {i j : Nat} (h : (match ops[i]? with | some o => o.after.toList.any (fun e => Region.binds .any e && e.on == j) | none => false) = true) : Bef ops i j := by
  cases ho : ops[i]? with
  | none => rw [ho] at h; cases h
  | some o =>
    rw [ho] at h
    simp only [List.any_eq_true, Bool.and_eq_true, beq_iff_eq] at h
    obtain ⟨e, he, hb, rfl⟩ := h
    exact .one ho (by simpa using he) hb
/-- The law of regions that make two new variables. -/
theorem wp_region_new2 {P : Program} {id : Nat} {Q : Exit → Act → World → Prop} {a : Act} {w : World} {l : List Oper} (N M g0 : Nat) (X Y : NewV) (S : List (List (Nat × Option Nat))) (Rel : List (Value → World → Prop))
    (hm : P.follows .mixedOrders = true) (hB : relB a.tmps.size l S = true) (hN : a.tmps.size = N) (hM : l.length = M) (hmono : MonoAll (StpG g0) Rel) (hobs : Obs P l (StpG g0) (Ph2 N M g0 X Y) Rel Q a w.drew 0 l S)
    (hend : ∀ L w', StpG g0 w w' → (∀ i, i < l.length → L.getD i false = true) → relEnd Rel w' (fun a => Ph2 N M g0 X Y L a w' → Q .normal a w') 0 l a) : (Code.region id l.toArray true).wp P Q a w :=
  wp_region_rel (StpG g0) (Ph2 N M g0 X Y) S Rel hm hB (StpG.refl _) StpG.trans hmono.all (Ph2.start' _ _ hN hM) hobs fun L w' h hL => hend L w' (Below.trans (Below.refl _ _).drew h) hL

namespace D
/-- The error's number of two items. -/
def innerE (n : Int) (p : List UInt8) (t : Int) (n' : Int) (p' : List UInt8) (t' : Int) : Int :=
  if goodI n p t = true ∧ goodI n' p' t' = true then (if n ≤ (B.cmn p p' : Nat) ∨ n' ≤ (B.cmn p p' : Nat) ∨ 0 < B.ord p p' then 3 else 0) else 1
end D
set_option maxRecDepth 100000 in
set_option maxHeartbeats 4000000 in
theorem chkInner_any (n : Int) (p s : List UInt8) (t : Int) (n' : Int) (p' s' : List UInt8) (t' : Int) (hn : (Lit.int .i64 n).wf = true) (hn' : (Lit.int .i64 n').wf = true) (hp : p.length = 32) (hs : s.length = 32) (hp' : p'.length = 32) (hs' : s'.length = 32) (w : World) :
    Calls Try.prog 69 #[.iface 69 (.agg (innerC n p s t n' p' s' t').toArray)] w fun e w' => e = .returned (.int .i64 (D.innerE n p t n' p' t')) ∧ Below w.heap.size w w' := by
  have GA := Lib.hid (fun W => ngood_any n p s t hn hp hs W)
  have GB := Lib.hid (fun W => ngood_any n' p' s' t' hn' hp' hs' W)
  have CC := Lib.hid (fun W => cmn_any p p' hp hp' W)
  have OO := Lib.hid (fun W => ord_any p p' hp hp' W)
  have hszI := innerC_size n p s t n' p' s' t' hp hs hp' hs'
  have hszZ := innerC_size 0 zlab zlab 0 0 zlab zlab 0 rfl rfl rfl rfl
  have hsl : (Try.prog.info? 69).map (·.size) = some (innerC n p s t n' p' s' t').toArray.size := by rw [hszI]; exact info_inner
  have hfit : 0 + (innerC n p s t n' p' s' t').toArray.size ≤ (innerC 0 zlab zlab 0 0 zlab zlab 0).toArray.size := by rw [hszI, hszZ]; decide
  have h1 := innerC_one n p s t n' p' s' t'
  have hsp := splice_all (innerC 0 zlab zlab 0 0 zlab zlab 0).toArray (innerC n p s t n' p' s' t').toArray (by rw [hszI, hszZ])
  have eA := innerC_itemL n p s t n' p' s' t'
  have eB := innerC_itemR n p s t n' p' s' t' hp hs
  have hzA : (Try.prog.info? 65).map (·.size) = some (itemC n p s t).toArray.size := by rw [List.size_toArray, itemC_length n p s t hp hs]; exact info_item
  have hzB : (Try.prog.info? 65).map (·.size) = some (itemC n' p' s' t').toArray.size := by rw [List.size_toArray, itemC_length n' p' s' t' hp' hs']; exact info_item
  have fA : ∀ j u, (prefA n p).toList[j]? = some u → (innerC n p s t n' p' s' t').toArray[0 + j]? = some u := fun j u h => by
    rw [Nat.zero_add, List.getElem?_toArray]; exact innerC_left _ _ _ _ _ _ _ _ j u (itemC_prefA n p s t j u h)
  have fB : ∀ j u, (prefA n' p').toList[j]? = some u → (innerC n p s t n' p' s' t').toArray[66 + j]? = some u := fun j u h => by
    rw [List.getElem?_toArray]; exact innerC_right n p s t n' p' s' t' hp hs j u (itemC_prefA n' p' s' t' j u h)
  have hE : D.innerE n p t n' p' t' = if D.goodI n p t = true ∧ D.goodI n' p' t' = true then (if n ≤ (B.cmn p p' : Nat) ∨ n' ≤ (B.cmn p p' : Nat) ∨ 0 < B.ord p p' then 3 else 0) else 1 := rfl
  have hz1 := size_pref n p hp
  have hz2 := size_pref n' p' hp'
  have hzl1 := size_lab p hp
  have hzl2 := size_lab p' hp'
  generalize D.innerE n p t n' p' t' = R at *
  generalize D.goodI n p t = ga at *
  generalize D.goodI n' p' t' = gb at *
  generalize ((B.cmn p p' : Nat) : Int) = c at *
  generalize B.ord p p' = od at *
  generalize (itemC n p s t).toArray = IA at *
  generalize (itemC n' p' s' t').toArray = IB at *
  generalize (innerC n p s t n' p' s' t').toArray = C at *
  have B0 := Blk.new w (innerC 0 zlab zlab 0 0 zlab zlab 0).toArray 69
  have hB := below_alloc1 w (.cells (innerC 0 zlab zlab 0 0 zlab zlab 0).toArray 69)
  cases ga with
  | false =>
    rw [if_neg (by simp)] at hE
    subst hE
    go_enter Try.func69, Try.ntmps69
    go_wp2_with (first | (refine wpList_assert (by rfl) (.tmp 8) _ _ _ (by rfl) (.iface 69 (.agg C)) (by rfl) _ (as61_no _) ?_; simp only [Act.put, List.setIfInBounds_toArray, List.set_cons_succ, List.set_cons_zero]) | (refine wpList_assert (by rfl) (.tmp 8) _ _ _ (by rfl) (.iface 69 (.agg C)) (by rfl) _ (as69_yes _) ?_; simp only [Act.put, List.setIfInBounds_toArray, List.set_cons_succ, List.set_cons_zero]) | (refine wpList_fresh (by rfl) 69 (by rfl) _ fresh_inner ?_; simp only [Act.put, List.setIfInBounds_toArray, List.set_cons_succ, List.set_cons_zero]; try simp only [World.size_alloc]) | ((refine wpList_store_blk (by rfl) 69 (.tmp 4) (.tmp 22) (by rfl) (0) (C) (by rfl) (by rfl) (B0) (hfit) hsl (h1) ?_; simp only [Act.put]); intro w9 b9 o9; rw [hsp] at b9; have hb9 := o9.below hB (Nat.le_refl _); clear B0 hB o9) | (refine wpList_load_blk (by rfl) 65 (.tmp 23) (by rfl) (0) (by rfl) (b9) (IA) (eA) _ Try.underlying65 (by rfl) hzA ?_; simp only [Act.put, List.setIfInBounds_toArray, List.set_cons_succ, List.set_cons_zero]) | (refine wpList_load_blk (by rfl) 65 (.tmp 28) (by rfl) (66) (by rfl) (b10) (IB) (eB) _ Try.underlying65 (by rfl) hzB ?_; simp only [Act.put, List.setIfInBounds_toArray, List.set_cons_succ, List.set_cons_zero]) | (go_at_call 106; first | ((with_reducible refine (GA.out _).mono ?_); rintro e w10 ⟨rfl, h10⟩; have b10 := b9.at_ h10; have hb10 := hb9.trans (h10.mono hb9.size); clear h10) | ((with_reducible refine (GB.out _).mono ?_); rintro e w11 ⟨rfl, h11⟩; have b11 := b10.at_ h11; have hb11 := hb10.trans (h11.mono hb10.size); clear h11)))
    go_ret
    exact ⟨rfl, hb10⟩
  | true =>
    cases gb with
    | false =>
      rw [if_neg (by simp)] at hE
      subst hE
      go_enter Try.func69, Try.ntmps69
      go_wp2_with (first | (refine wpList_assert (by rfl) (.tmp 8) _ _ _ (by rfl) (.iface 69 (.agg C)) (by rfl) _ (as61_no _) ?_; simp only [Act.put, List.setIfInBounds_toArray, List.set_cons_succ, List.set_cons_zero]) | (refine wpList_assert (by rfl) (.tmp 8) _ _ _ (by rfl) (.iface 69 (.agg C)) (by rfl) _ (as69_yes _) ?_; simp only [Act.put, List.setIfInBounds_toArray, List.set_cons_succ, List.set_cons_zero]) | (refine wpList_fresh (by rfl) 69 (by rfl) _ fresh_inner ?_; simp only [Act.put, List.setIfInBounds_toArray, List.set_cons_succ, List.set_cons_zero]; try simp only [World.size_alloc]) | ((refine wpList_store_blk (by rfl) 69 (.tmp 4) (.tmp 22) (by rfl) (0) (C) (by rfl) (by rfl) (B0) (hfit) hsl (h1) ?_; simp only [Act.put]); intro w9 b9 o9; rw [hsp] at b9; have hb9 := o9.below hB (Nat.le_refl _); clear B0 hB o9) | (refine wpList_load_blk (by rfl) 65 (.tmp 23) (by rfl) (0) (by rfl) (b9) (IA) (eA) _ Try.underlying65 (by rfl) hzA ?_; simp only [Act.put, List.setIfInBounds_toArray, List.set_cons_succ, List.set_cons_zero]) | (refine wpList_load_blk (by rfl) 65 (.tmp 28) (by rfl) (66) (by rfl) (b10) (IB) (eB) _ Try.underlying65 (by rfl) hzB ?_; simp only [Act.put, List.setIfInBounds_toArray, List.set_cons_succ, List.set_cons_zero]) | (go_at_call 106; first | ((with_reducible refine (GA.out _).mono ?_); rintro e w10 ⟨rfl, h10⟩; have b10 := b9.at_ h10; have hb10 := hb9.trans (h10.mono hb9.size); clear h10) | ((with_reducible refine (GB.out _).mono ?_); rintro e w11 ⟨rfl, h11⟩; have b11 := b10.at_ h11; have hb11 := hb10.trans (h11.mono hb10.size); clear h11)))
      go_ret
      exact ⟨rfl, hb11⟩
    | true =>
      rw [if_pos ⟨rfl, rfl⟩] at hE
      go_enter Try.func69, Try.ntmps69
      go_wp2_with (first | (refine wpList_assert (by rfl) (.tmp 8) _ _ _ (by rfl) (.iface 69 (.agg C)) (by rfl) _ (as61_no _) ?_; simp only [Act.put, List.setIfInBounds_toArray, List.set_cons_succ, List.set_cons_zero]) | (refine wpList_assert (by rfl) (.tmp 8) _ _ _ (by rfl) (.iface 69 (.agg C)) (by rfl) _ (as69_yes _) ?_; simp only [Act.put, List.setIfInBounds_toArray, List.set_cons_succ, List.set_cons_zero]) | (refine wpList_fresh (by rfl) 69 (by rfl) _ fresh_inner ?_; simp only [Act.put, List.setIfInBounds_toArray, List.set_cons_succ, List.set_cons_zero]; try simp only [World.size_alloc]) | ((refine wpList_store_blk (by rfl) 69 (.tmp 4) (.tmp 22) (by rfl) (0) (C) (by rfl) (by rfl) (B0) (hfit) hsl (h1) ?_; simp only [Act.put]); intro w9 b9 o9; rw [hsp] at b9; have hb9 := o9.below hB (Nat.le_refl _); clear B0 hB o9) | (refine wpList_load_blk (by rfl) 65 (.tmp 23) (by rfl) (0) (by rfl) (b9) (IA) (eA) _ Try.underlying65 (by rfl) hzA ?_; simp only [Act.put, List.setIfInBounds_toArray, List.set_cons_succ, List.set_cons_zero]) | (refine wpList_load_blk (by rfl) 65 (.tmp 28) (by rfl) (66) (by rfl) (b10) (IB) (eB) _ Try.underlying65 (by rfl) hzB ?_; simp only [Act.put, List.setIfInBounds_toArray, List.set_cons_succ, List.set_cons_zero]) | (go_at_call 106; first | ((with_reducible refine (GA.out _).mono ?_); rintro e w10 ⟨rfl, h10⟩; have b10 := b9.at_ h10; have hb10 := hb9.trans (h10.mono hb9.size); clear h10) | ((with_reducible refine (GB.out _).mono ?_); rintro e w11 ⟨rfl, h11⟩; have b11 := b10.at_ h11; have hb11 := hb10.trans (h11.mono hb10.size); clear h11)))
      have hlt : w.heap.size < w11.heap.size := b11.lt
      have r1 : w11.drew.rangeAt w.heap.size 0 (prefA n p).toList := fun j u h => (b11.drew.cell (0 + j)).trans (fA j u h)
      have r2 : w11.drew.rangeAt w.heap.size 66 (prefA n' p').toList := fun j u h => (b11.drew.cell (66 + j)).trans (fB j u h)
      apply wp_region_new2 62 10 w11.heap.size ⟨6, 5, 8, prefA 0 zlab, prefA n p, 63⟩ ⟨7, 6, 9, prefA 0 zlab, prefA n' p', 63⟩
        [[(4, none)], [(33, some 0)], [(34, some 1)], [(4, none)], [(36, some 3)], [(37, some 4)], [], [], [(5, some 6), (35, some 2)], [(6, some 7), (38, some 5)]]
        [eqv _, eqv _, eqv _, eqv _, eqv _, eqv _, anyv, anyv, anyv, anyv] (by kernel_rfl) (by kernel_rfl) (by rfl) (by rfl)
      case hmono => repeat (first | exact trivial | refine ⟨fun _ _ _ _ h => h, ?_⟩)
      case hobs =>
        refine ⟨?_, ?_⟩
        · rintro L a1 w1 hT hP hS ⟨e4, -⟩
          have f4 := getD_form e4
          go_simp
          exact left_intro rfl (StpG.refl _ _) (hP.other (Stp.refl _) (by simp) (by simp))
        refine ⟨?_, ?_⟩
        · rintro L a1 w1 hT hP hS ⟨e33, -⟩
          have f33 := getD_form e33
          go_simp
          exact left_intro rfl (StpG.refl _ _) (hP.other (Stp.refl _) (by simp) (by simp))
        refine ⟨?_, ?_⟩
        · rintro L a1 w1 hT hP hS ⟨e34, -⟩
          exact wp_load_mid 63 (.tmp 34) rfl w.heap.size 0 e34 (prefA n p).toList _ (range_g r1 hlt hT) Try.underlying63 (by rfl) (by rw [Array.length_toList]; exact hz1) (left_intro rfl (StpG.refl _ _) (hP.other (Stp.refl _) (by simp) (by simp)))
        refine ⟨?_, ?_⟩
        · rintro L a1 w1 hT hP hS ⟨e4, -⟩
          have f4 := getD_form e4
          go_simp
          exact left_intro rfl (StpG.refl _ _) (hP.other (Stp.refl _) (by simp) (by simp))
        refine ⟨?_, ?_⟩
        · rintro L a1 w1 hT hP hS ⟨e36, -⟩
          have f36 := getD_form e36
          go_simp
          exact left_intro rfl (StpG.refl _ _) (hP.other (Stp.refl _) (by simp) (by simp))
        refine ⟨?_, ?_⟩
        · rintro L a1 w1 hT hP hS ⟨e37, -⟩
          exact wp_load_mid 63 (.tmp 37) rfl w.heap.size 66 e37 (prefA n' p').toList _ (range_g r2 hlt hT) Try.underlying63 (by rfl) (by rw [Array.length_toList]; exact hz2) (left_intro rfl (StpG.refl _ _) (hP.other (Stp.refl _) (by simp) (by simp)))
        refine ⟨?_, ?_⟩
        · rintro L a1 w1 hT hP hS -
          exact wp_freshS 63 rfl (prefA 0 zlab) fresh_pref (left_intro trivial (StpG.of (Stp.alloc _ _) (StpG.le hT)) (hP.make (StpG.le hT) (hS.post 8 (bef_of (by kernel_rfl))) (by simp) ⟨by simp, by simp, by simp, by simp⟩))
        refine ⟨?_, ?_⟩
        · rintro L a1 w1 hT hP hS -
          exact wp_freshS 63 rfl (prefA 0 zlab) fresh_pref (left_intro trivial (StpG.of (Stp.alloc _ _) (StpG.le hT)) (hP.swap.make (StpG.le hT) (hS.post 9 (bef_of (by kernel_rfl))) (by simp) ⟨by simp, by simp, by simp, by simp⟩).swap)
        refine ⟨?_, ?_⟩
        · rintro L a1 w1 hT hP hS ⟨-, e35, -⟩
          obtain ⟨b, e5, hg, B5⟩ := hP.one (hS.pre 6 (bef_of (by kernel_rfl)))
          have hs8 : L.getD 8 false = false := hS.self
          simp only [hs8, Bool.false_eq_true, if_false] at B5
          refine wp_store_blk 63 (.tmp 5) (.tmp 35) rfl 0 (prefA n p) e5 e35 B5 (by rw [prefA_size, prefA_size, hp]; decide) hz1 (prefA_all _ _) fun w5 B6 o6 => ?_
          rw [splice_all _ _ (by rw [prefA_size, prefA_size, hp]; rfl)] at B6
          exact left_intro trivial (StpG.only o6 hg) (hP.write e5 hg (hS.pre 6 (bef_of (by kernel_rfl))) (by simp) B6 o6 ⟨by simp, by simp, by simp⟩)
        refine ⟨?_, ?_⟩
        · rintro L a1 w1 hT hP hS ⟨-, e38, -⟩
          obtain ⟨b, e6, hg, B5⟩ := hP.two (hS.pre 7 (bef_of (by kernel_rfl)))
          have hs9 : L.getD 9 false = false := hS.self
          simp only [hs9, Bool.false_eq_true, if_false] at B5
          refine wp_store_blk 63 (.tmp 6) (.tmp 38) rfl 0 (prefA n' p') e6 e38 B5 (by rw [prefA_size, prefA_size, hp']; decide) hz2 (prefA_all _ _) fun w5 B6 o6 => ?_
          rw [splice_all _ _ (by rw [prefA_size, prefA_size, hp']; rfl)] at B6
          exact left_intro trivial (StpG.only o6 hg) (hP.swap.write e6 hg (hS.pre 7 (bef_of (by kernel_rfl))) (by simp) B6 o6 ⟨by simp, by simp, by simp⟩).swap
        trivial
      case hend =>
        intro L w2 hT hL
        rintro _ rfl _ rfl _ rfl _ rfl _ rfl _ rfl v5 - v6 -
        simp only [relEnd, Act.put, List.setIfInBounds_toArray, List.set_cons_succ, List.set_cons_zero]
        intro hP
        obtain ⟨g5, e5, hg5, b5⟩ := hP.one (hL 6 (by decide))
        obtain ⟨g6, e6, hg6, b6⟩ := hP.two (hL 7 (by decide))
        rw [if_pos (hL 8 (by decide))] at b5
        rw [if_pos (hL 9 (by decide))] at b6
        obtain rfl : v5 = _ := e5
        obtain rfl : v6 = _ := e6
        have hb2 := hb11.trans (Below.mono hT hb11.size)
        clear hP hL hT r1 r2 b11 b10 b9 hb9 hb10 hlt fA fB eA eB hsp h1 hfit hsl hszI hzA hzB GA GB
        by_cases c1 : n ≤ c
        · have d1 : decide (n ≤ c) = true := by simp; omega
          have d1' : decide (c ≥ n) = true := by simp; omega
          rw [if_pos (by omega)] at hE
          subst hE
          go_wp2_with (first | (refine wpList_load_blk (by rfl) 25 (.tmp 39) (by rfl) (1) (by rfl) (b5) (labA p) (prefA_lab _ _) _ Try.underlying25 (by rfl) hzl1 ?_; simp only [Act.put, List.setIfInBounds_toArray, List.set_cons_succ, List.set_cons_zero]) | (refine wpList_load_blk (by rfl) 25 (.tmp 41) (by rfl) (1) (by rfl) (b6) (labA p') (prefA_lab _ _) _ Try.underlying25 (by rfl) hzl2 ?_; simp only [Act.put, List.setIfInBounds_toArray, List.set_cons_succ, List.set_cons_zero]) | ((go_at_call 107; (with_reducible refine (CC.out _).mono ?_); rintro e w3 ⟨rfl, h3⟩); have b7 := b5.at_ h3; have b8 := b6.at_ h3; have hb3 := hb2.trans (h3.mono hb2.size); have k7 := b7.cellv (prefA_0 n p); have k8 := b8.cellv (prefA_0 n' p')) | (refine wpList_load_blk (by rfl) 25 (.tmp 55) (by rfl) (1) (by rfl) (b7) (labA p) (prefA_lab _ _) _ Try.underlying25 (by rfl) hzl1 ?_; simp only [Act.put, List.setIfInBounds_toArray, List.set_cons_succ, List.set_cons_zero]) | (refine wpList_load_blk (by rfl) 25 (.tmp 57) (by rfl) (1) (by rfl) (b8) (labA p') (prefA_lab _ _) _ Try.underlying25 (by rfl) hzl2 ?_; simp only [Act.put, List.setIfInBounds_toArray, List.set_cons_succ, List.set_cons_zero]) | ((go_at_call 108; (with_reducible refine (OO.out _).mono ?_); rintro e w4 ⟨rfl, h4⟩); replace hb3 := hb3.trans (h4.mono hb3.size)))
          go_ret
          exact ⟨rfl, hb3⟩
        · have d1 : decide (n ≤ c) = false := by simp; omega
          have d1' : decide (c ≥ n) = false := by simp; omega
          by_cases c2 : n' ≤ c
          · have d2 : decide (n' ≤ c) = true := by simp; omega
            have d2' : decide (c ≥ n') = true := by simp; omega
            rw [if_pos (by omega)] at hE
            subst hE
            go_wp2_with (first | (refine wpList_load_blk (by rfl) 25 (.tmp 39) (by rfl) (1) (by rfl) (b5) (labA p) (prefA_lab _ _) _ Try.underlying25 (by rfl) hzl1 ?_; simp only [Act.put, List.setIfInBounds_toArray, List.set_cons_succ, List.set_cons_zero]) | (refine wpList_load_blk (by rfl) 25 (.tmp 41) (by rfl) (1) (by rfl) (b6) (labA p') (prefA_lab _ _) _ Try.underlying25 (by rfl) hzl2 ?_; simp only [Act.put, List.setIfInBounds_toArray, List.set_cons_succ, List.set_cons_zero]) | ((go_at_call 107; (with_reducible refine (CC.out _).mono ?_); rintro e w3 ⟨rfl, h3⟩); have b7 := b5.at_ h3; have b8 := b6.at_ h3; have hb3 := hb2.trans (h3.mono hb2.size); have k7 := b7.cellv (prefA_0 n p); have k8 := b8.cellv (prefA_0 n' p')) | (refine wpList_load_blk (by rfl) 25 (.tmp 55) (by rfl) (1) (by rfl) (b7) (labA p) (prefA_lab _ _) _ Try.underlying25 (by rfl) hzl1 ?_; simp only [Act.put, List.setIfInBounds_toArray, List.set_cons_succ, List.set_cons_zero]) | (refine wpList_load_blk (by rfl) 25 (.tmp 57) (by rfl) (1) (by rfl) (b8) (labA p') (prefA_lab _ _) _ Try.underlying25 (by rfl) hzl2 ?_; simp only [Act.put, List.setIfInBounds_toArray, List.set_cons_succ, List.set_cons_zero]) | ((go_at_call 108; (with_reducible refine (OO.out _).mono ?_); rintro e w4 ⟨rfl, h4⟩); replace hb3 := hb3.trans (h4.mono hb3.size)))
            go_ret
            exact ⟨rfl, hb3⟩
          · have d2 : decide (n' ≤ c) = false := by simp; omega
            have d2' : decide (c ≥ n') = false := by simp; omega
            by_cases c3 : 0 < od
            · have d3 : decide (0 < od) = true := by simp; omega
              have d3' : decide (od > 0) = true := by simp; omega
              rw [if_pos (by omega)] at hE
              subst hE
              go_wp2_with (first | (refine wpList_load_blk (by rfl) 25 (.tmp 39) (by rfl) (1) (by rfl) (b5) (labA p) (prefA_lab _ _) _ Try.underlying25 (by rfl) hzl1 ?_; simp only [Act.put, List.setIfInBounds_toArray, List.set_cons_succ, List.set_cons_zero]) | (refine wpList_load_blk (by rfl) 25 (.tmp 41) (by rfl) (1) (by rfl) (b6) (labA p') (prefA_lab _ _) _ Try.underlying25 (by rfl) hzl2 ?_; simp only [Act.put, List.setIfInBounds_toArray, List.set_cons_succ, List.set_cons_zero]) | ((go_at_call 107; (with_reducible refine (CC.out _).mono ?_); rintro e w3 ⟨rfl, h3⟩); have b7 := b5.at_ h3; have b8 := b6.at_ h3; have hb3 := hb2.trans (h3.mono hb2.size); have k7 := b7.cellv (prefA_0 n p); have k8 := b8.cellv (prefA_0 n' p')) | (refine wpList_load_blk (by rfl) 25 (.tmp 55) (by rfl) (1) (by rfl) (b7) (labA p) (prefA_lab _ _) _ Try.underlying25 (by rfl) hzl1 ?_; simp only [Act.put, List.setIfInBounds_toArray, List.set_cons_succ, List.set_cons_zero]) | (refine wpList_load_blk (by rfl) 25 (.tmp 57) (by rfl) (1) (by rfl) (b8) (labA p') (prefA_lab _ _) _ Try.underlying25 (by rfl) hzl2 ?_; simp only [Act.put, List.setIfInBounds_toArray, List.set_cons_succ, List.set_cons_zero]) | ((go_at_call 108; (with_reducible refine (OO.out _).mono ?_); rintro e w4 ⟨rfl, h4⟩); replace hb3 := hb3.trans (h4.mono hb3.size)))
              go_ret
              exact ⟨rfl, hb3⟩
            · have d3 : decide (0 < od) = false := by simp; omega
              have d3' : decide (od > 0) = false := by simp; omega
              rw [if_neg (by omega)] at hE
              subst hE
              go_wp2_with (first | (refine wpList_load_blk (by rfl) 25 (.tmp 39) (by rfl) (1) (by rfl) (b5) (labA p) (prefA_lab _ _) _ Try.underlying25 (by rfl) hzl1 ?_; simp only [Act.put, List.setIfInBounds_toArray, List.set_cons_succ, List.set_cons_zero]) | (refine wpList_load_blk (by rfl) 25 (.tmp 41) (by rfl) (1) (by rfl) (b6) (labA p') (prefA_lab _ _) _ Try.underlying25 (by rfl) hzl2 ?_; simp only [Act.put, List.setIfInBounds_toArray, List.set_cons_succ, List.set_cons_zero]) | ((go_at_call 107; (with_reducible refine (CC.out _).mono ?_); rintro e w3 ⟨rfl, h3⟩); have b7 := b5.at_ h3; have b8 := b6.at_ h3; have hb3 := hb2.trans (h3.mono hb2.size); have k7 := b7.cellv (prefA_0 n p); have k8 := b8.cellv (prefA_0 n' p')) | (refine wpList_load_blk (by rfl) 25 (.tmp 55) (by rfl) (1) (by rfl) (b7) (labA p) (prefA_lab _ _) _ Try.underlying25 (by rfl) hzl1 ?_; simp only [Act.put, List.setIfInBounds_toArray, List.set_cons_succ, List.set_cons_zero]) | (refine wpList_load_blk (by rfl) 25 (.tmp 57) (by rfl) (1) (by rfl) (b8) (labA p') (prefA_lab _ _) _ Try.underlying25 (by rfl) hzl2 ?_; simp only [Act.put, List.setIfInBounds_toArray, List.set_cons_succ, List.set_cons_zero]) | ((go_at_call 108; (with_reducible refine (OO.out _).mono ?_); rintro e w4 ⟨rfl, h4⟩); replace hb3 := hb3.trans (h4.mono hb3.size)))
              go_ret
              exact ⟨rfl, hb3⟩
end Go.Proofs.Ytgjmnhbkdccgpaa
