/- The walk of merge.Lists. -/
import Derived.Test.YtnfabofkfnmplaaLvM
import Derived.Deep.LoopGhost
namespace Go.Proofs.Ytnfabofkfnmplaa
open Go.RowKit

theorem sl_tail {g o n c : Nat} (hn : 1 ≤ n) (hc : n ≤ c) : ∃ A', (∀ W : World, (Instr.slice 23 (.slice (some ⟨g, o, none⟩) n c) (some (.int .i64 1)) none none).run Try.prog W = .ok (.slice A' (n - 1) (c - 1)) W) ∧
    ∀ (W : World) (x : L.En) (t : List L.En), ERead W (.slice (some ⟨g, o, none⟩) n c) (x :: t) → ERead W (.slice A' (n - 1) (c - 1)) t := by
  refine ⟨if c = 1 then some ⟨g, o, none⟩ else some ((⟨g, o, none⟩ : Addr).add 3), fun W => ?_, fun W x t h => ?_⟩
  · have hu : Try.prog.underlying 23 = some (.slice (Try.prog.elem 23)) := by kernel_rfl
    obtain ⟨i0, hi, hz0, hz1, hz2⟩ := info_parts info_en.1
    have hel : Try.prog.elem 23 = 26 := by kernel_rfl
    rw [run_slice_l W 23 (some ⟨g, o, none⟩) n c hu .i64 1 (by omega) (by omega), hel]
    simp [sizeOf, typeInfo, hi, hz1, sliced, Result.andThen]
  · obtain ⟨A', c', heq, hc', hcell⟩ := h
    injection heq with e1 e2 e3
    subst e1 e3
    rw [List.length_map, List.length_cons] at e2
    subst e2
    refine ⟨_, _, by rw [List.length_map]; rfl, by rw [List.length_map]; omega, ?_⟩
    by_cases h0 : t = []
    · exact .inl (by rw [h0]; rfl)
    · right
      have ht : 0 < t.length := by cases t with | nil => exact absurd rfl h0 | cons _ _ => simp
      rcases hcell with e | ⟨g', o', e, hg, hr⟩
      · cases e
      · injection e with e
        injection e with e1 e2
        subst e1 e2
        refine ⟨g, o + 3, by rw [if_neg (by omega)]; rfl, hg, fun k y hk => ?_⟩
        have := hr (k + 1) y (by rw [List.map_cons]; exact hk)
        rwa [show o + (k + 1) * 3 = o + 3 + k * 3 by omega] at this
namespace L
theorem mrg_end {dr : Bool} {cs : List (List En)} {last : Option (List UInt8)} (h : lst cs = none) : mrg dr (total cs + 1) cs last = [] := by
  show (match lst cs with | none => [] | some (i, x) => _) = _
  rw [h]
theorem tl_eq {cs : List (List En)} {i : Nat} {x : En} {t : List En} (h : cs[i]? = some (x :: t)) : tl cs i = cs.set i t := by
  unfold tl
  rw [List.getD_eq_getElem?_getD, h]; rfl
theorem mrg_step {dr : Bool} {cs : List (List En)} {last : Option (List UInt8)} {i : Nat} {x : En} {t : List En} (h : lst cs = some (i, x)) (ht : cs[i]? = some (x :: t)) :
    mrg dr (total cs + 1) cs last = if last = some x.key then mrg dr (total (cs.set i t) + 1) (cs.set i t) last else (if dr = false ∨ x.gone = false then [x] else []) ++ mrg dr (total (cs.set i t) + 1) (cs.set i t) (some x.key) := by
  have e := total_tl ht
  rw [tl_eq ht] at e
  show (match lst cs with | none => [] | some (i, x) => if last = some x.key then mrg dr (total cs) (tl cs i) last else (if dr = false ∨ x.gone = false then [x] else []) ++ mrg dr (total cs) (tl cs i) (some x.key)) = _
  rw [h]
  dsimp only
  rw [tl_eq ht, ← e]
end L
theorem cu_set (vs : List Value) (i : Nat) (x : Value) (hi : i < vs.length) : (vs.zipIdx.map cuC).set i [x, .int .i64 (i : Int)] = (vs.set i x).zipIdx.map cuC := by
  apply List.ext_getElem?
  intro n
  rw [List.getElem?_set, List.getElem?_map, List.getElem?_zipIdx, List.getElem?_map, List.getElem?_zipIdx, List.getElem?_set]
  rw [List.length_map, List.length_zipIdx]
  by_cases e : i = n
  · subst e
    rw [if_pos rfl, if_pos hi, if_pos rfl, if_pos hi]
    simp [cuC]
  · rw [if_neg e, if_neg e]
theorem crow_set {w : World} {g m c : Nat} {vs : List Value} (h : CRow w (.slice (some ⟨g, 0, none⟩) m c) vs) {i : Nat} {y : Value} (hy : vs[i]? = some y) (x : Value) : CRow (w.setCell ⟨g, i * 2, none⟩ x) (.slice (some ⟨g, 0, none⟩) m c) (vs.set i x) := by
  have hz : (vs.zipIdx.map cuC)[i]? = some [y, .int .i64 (i : Int)] := by
    rw [List.getElem?_map, List.getElem?_zipIdx, hy]
    simp [cuC]
  have := RowN.set h (k := i) (j := 0) hz (by omega) x
  unfold CRow
  rw [← cu_set vs i x (List.getElem?_eq_some_iff.1 hy).1]
  exact this
theorem ReadAll.set {w : World} {vs : List Value} {ls : List (List L.En)} (h : ReadAll w vs ls) {i : Nat} {x : Value} {t : List L.En} (hx : ERead w x t) : ReadAll w (vs.set i x) (ls.set i t) := by
  refine ⟨by rw [List.length_set, List.length_set]; exact h.1, fun n v l hv hl => ?_⟩
  rw [List.getElem?_set] at hv hl
  by_cases e : i = n
  · rw [if_pos e] at hv hl
    split at hv
    · split at hl
      · injection hv with hv; injection hl with hl
        rw [← hv, ← hl]; exact hx
      · cases hl
    · cases hv
  · rw [if_neg e] at hv hl
    exact h.2 n v l hv hl
theorem crow_snoc {w : World} {v : Value} {vs : List Value} {y : Value} {k : Nat} (hk : vs.length = k) (h : RowN w 50 2 v (vs.zipIdx.map cuC ++ [[y, .int .i64 (k : Int)]])) : CRow w v (vs ++ [y]) := by
  unfold CRow
  rw [List.zipIdx_append, List.map_append, hk]
  simpa [cuC] using h
end Go.Proofs.Ytnfabofkfnmplaa
