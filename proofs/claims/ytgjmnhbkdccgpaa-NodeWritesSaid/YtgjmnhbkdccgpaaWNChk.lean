/- The walk of node.Check. -/
import Derived.Test.YtgjmnhbkdccgpaaWNGood
import Derived.Test.YtgjmnhbkdccgpaaRelS
namespace Go.Proofs.Ytgjmnhbkdccgpaa
open Go.RowKit

/-- An asserted type, as one step. -/
theorem wpList_assert {P : Program} {ops : Array Oper} {rest : List Oper} {o : Oper} {a : Act} {w : World} {Q : Exit → Act → World → Prop} (hw : Region.wanted o (yielded ops a.tmps) = true) (x : Operand) (xt t : TypeId) (c : Bool) (ho : o.op = .typeAssert x xt t c)
    (u : Value) (hx : a.eval x = u) (v : Value) (hr : ∀ w, (Instr.typeAssert u xt t c).run P w = .ok v w) (hk : wpList P ops Q rest (a.put o.dst v) w) : wpList P ops Q (o :: rest) a w :=
  BigFrame.wpList_want hw fun _ hK => by
    unfold Oper.wp execOp
    simp only [ho, hx, hr, Sem.run_bind, Result.andThen_ok, Sem.run_pure]
    exact hK _ _ hk
theorem as61_yes (v : Value) (w : World) : (Instr.typeAssert (.iface 61 v) 83 61 true).run Try.prog w = .ok (.tuple #[v, .bool true]) w := by kernel_rfl
theorem as61_no (v : Value) (w : World) : (Instr.typeAssert (.iface 69 v) 83 61 true).run Try.prog w = .ok (.tuple #[.agg (leafC zlab zlab 0).toArray, .bool false]) w := by kernel_rfl
theorem as61_nil (w : World) : (Instr.typeAssert .nilIface 83 61 true).run Try.prog w = .ok (.tuple #[.agg (leafC zlab zlab 0).toArray, .bool false]) w := by kernel_rfl
theorem as69_yes (v : Value) (w : World) : (Instr.typeAssert (.iface 69 v) 83 69 true).run Try.prog w = .ok (.tuple #[v, .bool true]) w := by kernel_rfl
theorem as69_no (v : Value) (w : World) : (Instr.typeAssert (.iface 61 v) 83 69 true).run Try.prog w = .ok (.tuple #[.agg (innerC 0 zlab zlab 0 0 zlab zlab 0).toArray, .bool false]) w := by kernel_rfl
theorem as69_nil (w : World) : (Instr.typeAssert .nilIface 83 69 true).run Try.prog w = .ok (.tuple #[.agg (innerC 0 zlab zlab 0 0 zlab zlab 0).toArray, .bool false]) w := by kernel_rfl
theorem fresh_leaf (w : World) : (Instr.alloc 61 true (.tuple #[])).run Try.prog w = .ok (.pointer (some ⟨w.heap.size, 0, none⟩)) (w.alloc (.cells (leafC zlab zlab 0).toArray 61)) := by kernel_rfl
theorem fresh_inner (w : World) : (Instr.alloc 69 true (.tuple #[])).run Try.prog w = .ok (.pointer (some ⟨w.heap.size, 0, none⟩)) (w.alloc (.cells (innerC 0 zlab zlab 0 0 zlab zlab 0).toArray 69)) := by kernel_rfl
theorem leafC_one (l v : List UInt8) (t : Int) : (leafC l v t).toArray.all (·.oneCell') = true := by
  rw [Array.all_eq_true']
  intro x hx
  rw [List.mem_toArray] at hx
  unfold leafC at hx
  simp only [List.mem_append, List.mem_map, List.mem_singleton] at hx
  rcases hx with (⟨b, _, rfl⟩ | ⟨b, _, rfl⟩) | rfl <;> rfl

namespace D
/-- The error's number of a leaf; of two items. -/
def leafE (t : Int) : Int := if 0 ≤ t ∧ t ≤ 1073741824 then 0 else 1
end D
set_option maxRecDepth 100000 in
set_option maxHeartbeats 1000000 in
theorem chkLeaf_any (l v : List UInt8) (t : Int) (hl : l.length = 32) (hv : v.length = 32) (w : World) :
    Calls Try.prog 69 #[.iface 61 (.agg (leafC l v t).toArray)] w fun e w' => e = .returned (.int .i64 (D.leafE t)) ∧ Below w.heap.size w w' := by
  have hsl : (Try.prog.info? 61).map (·.size) = some (leafC l v t).toArray.size := by rw [List.size_toArray, leafC_length l v t hl hv]; exact info_leaf
  have hfit : 0 + (leafC l v t).toArray.size ≤ (leafC zlab zlab 0).toArray.size := by rw [List.size_toArray, List.size_toArray, leafC_length l v t hl hv, leafC_length zlab zlab 0 rfl rfl]; decide
  have h64 : (leafC l v t).toArray[64]? = some (.int .i64 t) := by rw [List.getElem?_toArray]; exact leafC_at l v t hl hv
  have h1 := leafC_one l v t
  have hsp := splice_all (leafC zlab zlab 0).toArray (leafC l v t).toArray (by rw [List.size_toArray, List.size_toArray, leafC_length l v t hl hv, leafC_length zlab zlab 0 rfl rfl])
  have hR : D.leafE t = if 0 ≤ t ∧ t ≤ 1073741824 then 0 else 1 := rfl
  generalize D.leafE t = R at *
  generalize (leafC l v t).toArray = C at *
  have B0 := Blk.new w (leafC zlab zlab 0).toArray 61
  have hB := below_alloc1 w (.cells (leafC zlab zlab 0).toArray 61)
  by_cases c1 : t < 0
  · have d1 : decide (t < 0) = true := by simp; omega
    rw [if_neg (by omega)] at hR
    subst hR
    go_enter Try.func69, Try.ntmps69
    go_wp2_with (first | (refine wpList_assert (by rfl) (.tmp 8) _ _ _ (by rfl) (.iface 61 (.agg C)) (by rfl) _ (as61_yes _) ?_; simp only [Act.put, List.setIfInBounds_toArray, List.set_cons_succ, List.set_cons_zero]) | (refine wpList_fresh (by rfl) 61 (by rfl) _ fresh_leaf ?_; simp only [Act.put, List.setIfInBounds_toArray, List.set_cons_succ, List.set_cons_zero]; try simp only [World.size_alloc]) | ((refine wpList_store_blk (by rfl) 61 (.tmp 3) (.tmp 11) (by rfl) (0) (C) (by rfl) (by rfl) (B0) (hfit) hsl (h1) ?_; simp only [Act.put]); intro w9 b9 o9; rw [hsp] at b9; have k9 : w9.cell? ⟨w.heap.size, 64, none⟩ = some (.int .i64 t) := (b9.cell 64).trans h64))
    go_ret
    exact ⟨rfl, o9.below hB (Nat.le_refl _)⟩
  · have d1 : decide (t < 0) = false := by simp; omega
    by_cases c2 : 1073741824 < t
    · have d2 : decide (1073741824 < t) = true := by simp; omega
      have d2' : decide (t > 1073741824) = true := by simp; omega
      rw [if_neg (by omega)] at hR
      subst hR
      go_enter Try.func69, Try.ntmps69
      go_wp2_with (first | (refine wpList_assert (by rfl) (.tmp 8) _ _ _ (by rfl) (.iface 61 (.agg C)) (by rfl) _ (as61_yes _) ?_; simp only [Act.put, List.setIfInBounds_toArray, List.set_cons_succ, List.set_cons_zero]) | (refine wpList_fresh (by rfl) 61 (by rfl) _ fresh_leaf ?_; simp only [Act.put, List.setIfInBounds_toArray, List.set_cons_succ, List.set_cons_zero]; try simp only [World.size_alloc]) | ((refine wpList_store_blk (by rfl) 61 (.tmp 3) (.tmp 11) (by rfl) (0) (C) (by rfl) (by rfl) (B0) (hfit) hsl (h1) ?_; simp only [Act.put]); intro w9 b9 o9; rw [hsp] at b9; have k9 : w9.cell? ⟨w.heap.size, 64, none⟩ = some (.int .i64 t) := (b9.cell 64).trans h64))
      go_ret
      exact ⟨rfl, o9.below hB (Nat.le_refl _)⟩
    · have d2 : decide (1073741824 < t) = false := by simp; omega
      have d2' : decide (t > 1073741824) = false := by simp; omega
      rw [if_pos (by omega)] at hR
      subst hR
      go_enter Try.func69, Try.ntmps69
      go_wp2_with (first | (refine wpList_assert (by rfl) (.tmp 8) _ _ _ (by rfl) (.iface 61 (.agg C)) (by rfl) _ (as61_yes _) ?_; simp only [Act.put, List.setIfInBounds_toArray, List.set_cons_succ, List.set_cons_zero]) | (refine wpList_fresh (by rfl) 61 (by rfl) _ fresh_leaf ?_; simp only [Act.put, List.setIfInBounds_toArray, List.set_cons_succ, List.set_cons_zero]; try simp only [World.size_alloc]) | ((refine wpList_store_blk (by rfl) 61 (.tmp 3) (.tmp 11) (by rfl) (0) (C) (by rfl) (by rfl) (B0) (hfit) hsl (h1) ?_; simp only [Act.put]); intro w9 b9 o9; rw [hsp] at b9; have k9 : w9.cell? ⟨w.heap.size, 64, none⟩ = some (.int .i64 t) := (b9.cell 64).trans h64))
      go_ret
      exact ⟨rfl, o9.below hB (Nat.le_refl _)⟩
theorem chkNil_any (w : World) : Calls Try.prog 69 #[.nilIface] w fun e w' => e = .returned (.int .i64 3) ∧ Below w.heap.size w w' := by
  go_enter Try.func69, Try.ntmps69
  go_wp2_with (first | (refine wpList_assert (by rfl) (.tmp 8) _ _ _ (by rfl) .nilIface (by rfl) _ as61_nil ?_; simp only [Act.put, List.setIfInBounds_toArray, List.set_cons_succ, List.set_cons_zero]) | (refine wpList_assert (by rfl) (.tmp 8) _ _ _ (by rfl) .nilIface (by rfl) _ as69_nil ?_; simp only [Act.put, List.setIfInBounds_toArray, List.set_cons_succ, List.set_cons_zero]))
  go_ret
  exact ⟨rfl, Below.refl _ _⟩
end Go.Proofs.Ytgjmnhbkdccgpaa
