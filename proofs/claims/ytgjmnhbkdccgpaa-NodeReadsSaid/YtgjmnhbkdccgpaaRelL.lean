/- Labels in regions that draw their order. -/
import Derived.Test.YtgjmnhbkdccgpaaRel
import Derived.Test.YtgjmnhbkdccgpaaWSum
import Derived.Great.BuildSlice
namespace Go.Proofs.Ytgjmnhbkdccgpaa
open Go.RowKit

/-- A label out of its block, as one step. -/
theorem wp_load_lab {o : Oper} {a : Act} {w : World} {Q : Exit → Act → World → Prop} {K : Act → World → Prop} {g : Nat} {l : List UInt8} {t : TypeId} (x : Operand) (ho : o.op = .load 25 x) (hx : a.eval x = .pointer (some ⟨g, 0, none⟩)) (b : Blk w g (labA l) t) (hl : l.length = 32)
    (hk : K (a.put o.dst (.agg (labA l))) w) : o.wp Try.prog a w K Q :=
  wp_load_mid 25 x ho g 0 hx (labA l).toList _ (blk_range b (fun j _ => by rw [Nat.zero_add])) Try.underlying25 (by rfl) (by rw [Array.length_toList]; exact size_lab l hl) (by rw [Array.toArray_toList]; exact hk)
theorem fold_set : ∀ (vs : List Value) (k : Nat) (cs : Array Value) (i : Nat), k + vs.length ≤ cs.size → ((vs.zipIdx k).foldl (fun cs x => cs.setIfInBounds (0 + x.2) x.1) cs)[i]? = if k ≤ i ∧ i < k + vs.length then vs[i - k]? else cs[i]?
  | [], k, cs, i, _ => by
    rw [List.zipIdx_nil, List.foldl_nil, if_neg (by rw [List.length_nil]; omega)]
  | v :: vs, k, cs, i, h => by
    rw [List.length_cons] at h
    rw [List.zipIdx_cons, List.foldl_cons, fold_set vs (k + 1) _ i (by rw [Array.size_setIfInBounds]; omega), List.length_cons]
    by_cases h1 : k + 1 ≤ i ∧ i < k + 1 + vs.length
    · rw [if_pos h1, if_pos (by omega), show i - k = (i - (k + 1)) + 1 by omega, List.getElem?_cons_succ]
    · rw [if_neg h1]
      by_cases h2 : i = k
      · subst h2
        rw [if_pos (by omega), Nat.sub_self, List.getElem?_cons_zero, Nat.zero_add, Array.getElem?_setIfInBounds]
        simp
        omega
      · rw [if_neg (by omega), Nat.zero_add, Array.getElem?_setIfInBounds, if_neg (by omega)]
theorem fold_whole (vs cs : Array Value) (h : vs.size = cs.size) : vs.zipIdx.foldl (fun cs x => cs.setIfInBounds (0 + x.2) x.1) cs = vs := by
  apply Array.ext_getElem?
  intro i
  rw [← Array.foldl_toList, Array.toList_zipIdx, fold_set _ 0 _ _ (by simp; omega), Nat.zero_add, Nat.sub_zero]
  by_cases hi : i < vs.size
  · rw [if_pos (by simp; omega), Array.getElem?_toList]
  · rw [if_neg (by simp; omega), Array.getElem?_eq_none (by omega), Array.getElem?_eq_none (by omega)]
theorem fill_lab (l : List UInt8) (hl : l.length = 32) (cs : Array Value) (hc : cs.size = 32) : Instr.fill (fun i => some (i * 32, 32)) cs [(0, .agg (labA l))] = some (labA l) := by
  have hs : (Value.agg (labA l)).cells = labA l := rfl
  have hz : (labA l).size = 32 := by rw [labA_size, hl]
  rw [Instr.fill]
  simp only [Nat.zero_mul, hs]
  rw [if_neg (by rw [hz, hc]; decide), fold_whole _ _ (by rw [hz, hc]), Instr.fill]
theorem info_lab : (Try.prog.info? 25).map (fun i => (i.zero, i.size)) = some (some (.agg (labA zlab)), 32) := by kernel_rfl
/-- A slice of one label, written out, as one step. -/
theorem wp_build_lab {o : Oper} {a : Act} {w : World} {Q : Exit → Act → World → Prop} {K : Act → World → Prop} {l : List UInt8} (k : Nat) (ho : o.op = .buildSlice 54 1 #[(0, .tmp k)]) (hx : a.tmps.getD k undef = .agg (labA l)) (hl : l.length = 32)
    (hk : K (a.put o.dst (.slice (some ⟨w.heap.size, 0, none⟩) 1 1)) (w.alloc (.cells (labA l) 25))) : o.wp Try.prog a w K Q := by
  obtain ⟨i5, hi, h2⟩ : ∃ i5, Try.prog.info? 25 = some i5 ∧ (i5.zero, i5.size) = (some (.agg (labA zlab)), 32) := by
    have := info_lab
    cases h : Try.prog.info? 25 with
    | none => rw [h] at this; cases this
    | some i5 => rw [h] at this; exact ⟨i5, rfl, by simpa using this⟩
  injection h2 with hz hs
  refine wp_buildSlice 54 25 1 _ ho (labA l) i5 _ Try.underlying54 hi hz (by rw [hs]; decide) (by rw [hs]; decide) ?_ hk
  have he : a.eval (.tmp k) = .agg (labA l) := hx
  rw [show (#[(0, Operand.tmp k)].map fun x : Nat × Operand => (x.1, a.eval x.2)).toList = [(0, .agg (labA l))] by simp [he]]
  rw [hs]
  exact fill_lab l hl _ (by simp)
end Go.Proofs.Ytgjmnhbkdccgpaa
