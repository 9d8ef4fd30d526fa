/- Rows behind rows; what is appended to an empty slice that was written out. -/
import Derived.Test.YtnfabofkfnmplaaLvZ
import Derived.Test.YtnfabofkfnmplaaLvO
import Derived.Laws.OwnMore
namespace Go.Proofs.Ytnfabofkfnmplaa
open Go.RowKit

section
variable {ops : Array Oper} {o : Oper} {a : Act} {w : World} {e : TypeId} {v u z : Value} {b : Nat} {xs ys : List Value}
/-- A row behind a row. -/
theorem run_append_rows {w : World} (h : Row1 w e v xs) (h' : Row1 w e u ys) (hinfo : Info1 e z b) (t ty : TypeId) (ht : Try.prog.underlying t = some (.slice e)) (hone : ∀ x ∈ ys, x.oneCell' = true) (hlen : (xs.length + ys.length) * b ≤ 140737488355328) :
    ∃ v' w', (Builtin.append_ #[t, t] ty #[v, u]).run Try.prog w = .ok v' w' ∧ Row1 w' e v' (xs ++ ys) ∧ w.grownBy w' v.ownBlock ∧ (v'.ownBlock = v.ownBlock ∨ ∃ k, w.heap.size ≤ k ∧ v'.ownBlock = some k) := by
  rcases h'.2 with ⟨rfl, h0⟩ | ⟨g, cap, cur, rfl, h2⟩
  · obtain rfl := List.eq_nil_of_length_eq_zero h0
    obtain ⟨i0, hi, -, -, -⟩ := info_parts hinfo.1
    exact ⟨v, w, run_append_owned_none w 0 t ty e i0 1 ht hi v xs.length xs h, by rw [List.append_nil]; exact h, World.grownBy.refl w _, .inl rfl⟩
  · exact run_append_row h hinfo t ty ht ⟨g, 0, none⟩ ys.length cap ys rfl (fun j x hj => h'.cells rfl j x hj) hone hlen
theorem wpList_append_rows {rest : List Oper} {Q : Exit → Act → World → Prop} (hg : o.guard = none) (hinfo : Info1 e z b) (s x : Operand) (t : TypeId) (hop : o.op = Op.call { callee := Callee.builtin Builtin.append, args := #[s, x], argTypes := #[t, t] }) (ht : Try.prog.underlying t = some (.slice e)) (hs : a.eval s = v) (h : Row1 w e v xs)
    (hx : a.eval x = u) (h' : Row1 w e u ys) (hone : ∀ x ∈ ys, x.oneCell' = true) (hlen : (xs.length + ys.length) * b ≤ 140737488355328)
    (hK : ∀ v' w', Row1 w' e v' (xs ++ ys) → w.grownBy w' v.ownBlock → (v'.ownBlock = v.ownBlock ∨ ∃ k, w.heap.size ≤ k ∧ v'.ownBlock = some k) → wpList Try.prog ops Q rest (a.put o.dst v') w') : wpList Try.prog ops Q (o :: rest) a w :=
  wpList_plain hg fun _ hK' => by
    obtain ⟨v', w', hrun, r1, r2, r3⟩ := run_append_rows h h' hinfo t o.type ht hone hlen
    unfold Oper.wp
    simp [execOp, hop, resolve, invoke, builtin, hs, hx, hrun, Result.andThen]
    exact hK' _ _ (hK v' w' r1 r2 r3)
theorem grown_none_below {w w' : World} (h : w.grownBy w' none) : Below w.heap.size w w' := (Below.refl w.heap.size w).grown h (Nat.le_refl _) (fun k e => by cases e)
/-- A row behind nothing: a new block. -/
theorem run_append_zero {w : World} {g : Nat} (h' : Row1 w e u ys) (h0 : ys ≠ []) (hinfo : Info1 e z b) (t ty : TypeId) (ht : Try.prog.underlying t = some (.slice e)) (hlen : ys.length * b ≤ 140737488355328) :
    ∃ v' w', (Builtin.append_ #[t, t] ty #[.slice (some ⟨g, 0, none⟩) 0 0, u]).run Try.prog w = .ok v' w' ∧ Row1 w' e v' ys ∧ Below w.heap.size w w' ∧ ∃ k, w.heap.size ≤ k ∧ v'.ownBlock = some k := by
  have hp : 0 < ys.length := List.length_pos_iff.2 h0
  rcases h'.2 with ⟨rfl, h1⟩ | ⟨g', cap, cur, rfl, h2⟩
  · omega
  · obtain ⟨hinf, hzc, hb1⟩ := hinfo
    obtain ⟨i5, hi, hz0, hz1, hz2⟩ := info_parts hinf
    have hsum : ys.length ≤ ys.length * b := Nat.le_mul_of_pos_right _ hb1
    have hmax : ys.length ≤ maxLen := Nat.le_trans (Nat.le_trans hsum hlen) (by decide)
    obtain ⟨v', w', hrun, r1, r2⟩ := run_append_arg_grows (P := Try.prog) w t ty _ i5 _ 1 b ht hi hz0 hz1 hz2 hzc (by omega) ⟨g, 0, none⟩ 0 0 [] (by simp) (by simp) ⟨g', 0, none⟩ ys.length cap ys (by simp) (fun j x hj => h'.cells rfl j x hj) (by omega) (by omega) (by rw [Nat.zero_add]; omega)
    rw [Nat.zero_add, List.nil_append] at r1
    refine ⟨v', w', hrun, owns_zero r1, grown_none_below (grown_none r2), ?_⟩
    rcases own_of_base r1 with e | ⟨k, hk, e⟩
    · exfalso
      rcases r1.2 with ⟨e2, h3⟩ | ⟨g2, c2, cu2, e2, _⟩
      · omega
      · rw [e2] at e; cases e
    · exact ⟨k, hk, e⟩
theorem wp_append_zero {K : Act → World → Prop} {Q : Exit → Act → World → Prop} (hinfo : Info1 e z b) (s x : Operand) (t : TypeId) (hop : o.op = Op.call { callee := Callee.builtin Builtin.append, args := #[s, x], argTypes := #[t, t] }) (ht : Try.prog.underlying t = some (.slice e)) {g : Nat} (hs : a.eval s = .slice (some ⟨g, 0, none⟩) 0 0)
    (hx : a.eval x = u) (h' : Row1 w e u ys) (h0 : ys ≠ []) (hlen : ys.length * b ≤ 140737488355328)
    (hK : ∀ v' w', Row1 w' e v' ys → Below w.heap.size w w' → (∃ k, w.heap.size ≤ k ∧ v'.ownBlock = some k) → K (a.put o.dst v') w') : Oper.wp Try.prog o a w K Q := by
  obtain ⟨v', w', hrun, r1, r2, r3⟩ := run_append_zero (g := g) h' h0 hinfo t o.type ht hlen
  unfold Oper.wp
  simp [execOp, hop, resolve, invoke, builtin, hs, hx, hrun, Result.andThen]
  exact hK v' w' r1 r2 r3
variable {size : Nat} {l news : List (List Value)}
theorem run_append_zeroN {w : World} {g : Nat} (hinfo : InfoN e z size b) (t ty : TypeId) (ht : Try.prog.underlying t = some (.slice e)) (ad : Addr) (m c : Nat) (news : List (List Value)) (hl : news.length = m) (h0 : 0 < m) (hns : ∀ x ∈ news, x.length = size) (hnews : ∀ j u, news.flatten[j]? = some u → w.cell? (ad.add j) = some u) (hlen : m * b ≤ 140737488355328) :
    ∃ v' w', (Builtin.append_ #[t, t] ty #[.slice (some ⟨g, 0, none⟩) 0 0, .slice (some ad) m c]).run Try.prog w = .ok v' w' ∧ RowN w' e size v' news ∧ Below w.heap.size w w' ∧ ∃ k, w.heap.size ≤ k ∧ v'.ownBlock = some k := by
  obtain ⟨hinf, hzc, hb1, hsz⟩ := hinfo
  obtain ⟨i5, hi, hz0, hz1, hz2⟩ := info_parts hinf
  subst hl
  have hn := flat_len news hns
  have hsum : news.length ≤ news.length * b := Nat.le_mul_of_pos_right _ hb1
  have hmax : news.length ≤ maxLen := Nat.le_trans (Nat.le_trans hsum hlen) (by decide)
  obtain ⟨v', w', hrun, r1, r2⟩ := run_append_arg_grows (P := Try.prog) w t ty _ i5 _ size b ht hi hz0 hz1 hz2 hzc hsz ⟨g, 0, none⟩ 0 0 [] (by simp) (by simp) ad news.length c news.flatten hn hnews (by omega) (by omega) (by rw [Nat.zero_add]; omega)
  rw [Nat.zero_add, List.nil_append] at r1
  refine ⟨v', w', hrun, ⟨hns, owns_zero r1⟩, grown_none_below (grown_none r2), ?_⟩
  rcases own_of_base r1 with e | ⟨k, hk, e⟩
  · exfalso
    rcases r1.2 with ⟨e2, h3⟩ | ⟨g2, c2, cu2, e2, _⟩
    · omega
    · rw [e2] at e; cases e
  · exact ⟨k, hk, e⟩
theorem wp_append_zeroN {K : Act → World → Prop} {Q : Exit → Act → World → Prop} (hinfo : InfoN e z size b) (s x : Operand) (t : TypeId) (hop : o.op = Op.call { callee := Callee.builtin Builtin.append, args := #[s, x], argTypes := #[t, t] }) (ht : Try.prog.underlying t = some (.slice e)) {g : Nat} (hs : a.eval s = .slice (some ⟨g, 0, none⟩) 0 0)
    (ad : Addr) (m c : Nat) (news : List (List Value)) (hx : a.eval x = .slice (some ad) m c) (hl : news.length = m) (h0 : 0 < m) (hns : ∀ x ∈ news, x.length = size) (hnews : ∀ j u, news.flatten[j]? = some u → w.cell? (ad.add j) = some u) (hlen : m * b ≤ 140737488355328)
    (hK : ∀ v' w', RowN w' e size v' news → Below w.heap.size w w' → (∃ k, w.heap.size ≤ k ∧ v'.ownBlock = some k) → K (a.put o.dst v') w') : Oper.wp Try.prog o a w K Q := by
  obtain ⟨v', w', hrun, r1, r2, r3⟩ := run_append_zeroN (g := g) hinfo t o.type ht ad m c news hl h0 hns hnews hlen
  unfold Oper.wp
  simp [execOp, hop, resolve, invoke, builtin, hs, hx, hrun, Result.andThen]
  exact hK v' w' r1 r2 r3
end
/-- A slice that the region made. -/
def row1of (e : TypeId) (xs : List Value) (N : Nat) : Value → World → Prop := fun v w => Row1 w e v xs ∧ ∃ k, N ≤ k ∧ v.ownBlock = some k
theorem mono_row1of (e : TypeId) (xs : List Value) (N : Nat) : ∀ v w w', Stp w w' → row1of e xs N v w → row1of e xs N v w' := fun _ _ _ hs ⟨h, k⟩ => ⟨h.at_ hs, k⟩
def frowof (l : List L.Fi) (N : Nat) : Value → World → Prop := fun v w => FRow w v l ∧ ∃ k, N ≤ k ∧ v.ownBlock = some k
theorem mono_frowof (l : List L.Fi) (N : Nat) : ∀ v w w', Stp w w' → frowof l N v w → frowof l N v w' := fun _ _ _ hs ⟨h, k⟩ => ⟨FRow.at_ h hs, k⟩
theorem info_sl : Info1 23 (.slice none 0 0) 24 := ⟨by kernel_rfl, rfl, by omega⟩
theorem und_ee : Try.prog.underlying 22 = some (.slice 23) := by kernel_rfl
theorem ReadAll.one {w : World} {vs : List Value} {ls : List (List L.En)} (h : ReadAll w vs ls) : ∀ x ∈ vs, x.oneCell' = true := by
  intro x hx
  obtain ⟨i, hi⟩ := List.getElem?_of_mem hx
  have h1 := (List.getElem?_eq_some_iff.1 hi).1
  obtain ⟨l, hl⟩ : ∃ l, ls[i]? = some l := ⟨_, List.getElem?_eq_getElem (by rw [← h.1]; exact h1)⟩
  obtain ⟨A, c, rfl, _⟩ := eread_open (h.2 i x l hi hl)
  rfl
theorem ReadAll.nil (w : World) : ReadAll w [] [] := ⟨rfl, fun i v l hv _ => by cases hv⟩
theorem ReadAll.snoc {w : World} {vs : List Value} {ls : List (List L.En)} (h : ReadAll w vs ls) {x : Value} {l : List L.En} (hx : ERead w x l) : ReadAll w (vs ++ [x]) (ls ++ [l]) := by
  refine ⟨by rw [List.length_append, List.length_append, h.1]; rfl, fun i v m hv hm => ?_⟩
  by_cases hi : i < vs.length
  · rw [List.getElem?_append_left hi] at hv
    rw [List.getElem?_append_left (by rw [← h.1]; exact hi)] at hm
    exact h.2 i v m hv hm
  · rw [List.getElem?_append_right (by omega)] at hv
    rw [List.getElem?_append_right (by rw [← h.1]; omega), ← h.1] at hm
    obtain ⟨n, hn⟩ : ∃ n, i - vs.length = n := ⟨_, rfl⟩
    rw [hn] at hv hm
    cases n with
    | zero => injection hv with hv; injection hm with hm; subst hv hm; exact hx
    | succ n => cases hv
/-- Tables: rows of entries, each of the program's own. -/
def RowAll (w : World) (vs : List Value) (ls : List (List L.En)) : Prop := vs.length = ls.length ∧ ∀ (i : Nat) (v : Value) (l : List L.En), vs[i]? = some v → ls[i]? = some l → ERow w v l
theorem RowAll.reads {w : World} {vs : List Value} {ls : List (List L.En)} (h : RowAll w vs ls) : ReadAll w vs ls := ⟨h.1, fun i v l hv hl => (h.2 i v l hv hl).reads⟩
theorem RowAll.at_ {w w' : World} {vs : List Value} {ls : List (List L.En)} (h : RowAll w vs ls) (hb : Below w.heap.size w w') : RowAll w' vs ls := ⟨h.1, fun i v l hv hl => (h.2 i v l hv hl).at_ hb⟩
theorem RowAll.alloc {w : World} {vs : List Value} {ls : List (List L.En)} (h : RowAll w vs ls) (o : Obj) : RowAll (w.alloc o) vs ls := ⟨h.1, fun i v l hv hl => ERow.alloc (h.2 i v l hv hl) o⟩
theorem RowAll.only {w w' : World} {vs : List Value} {ls : List (List L.En)} {g : Nat} {cs : Array Value} {t : TypeId} (h : RowAll w vs ls) (hb : Blk w g cs t) (ht : 26 ≠ t) (ho : Only g w w') : RowAll w' vs ls := ⟨h.1, fun i v l hv hl => RowN.only (h.2 i v l hv hl) hb ht ho⟩
theorem RowAll.nil (w : World) : RowAll w [] [] := ⟨rfl, fun i v l hv _ => by cases hv⟩
theorem RowAll.snoc {w : World} {vs : List Value} {ls : List (List L.En)} (h : RowAll w vs ls) {x : Value} {l : List L.En} (hx : ERow w x l) : RowAll w (vs ++ [x]) (ls ++ [l]) := by
  refine ⟨by rw [List.length_append, List.length_append, h.1]; rfl, fun i v m hv hm => ?_⟩
  by_cases hi : i < vs.length
  · rw [List.getElem?_append_left hi] at hv
    rw [List.getElem?_append_left (by rw [← h.1]; exact hi)] at hm
    exact h.2 i v m hv hm
  · rw [List.getElem?_append_right (by omega)] at hv
    rw [List.getElem?_append_right (by rw [← h.1]; omega), ← h.1] at hm
    obtain ⟨n, hn⟩ : ∃ n, i - vs.length = n := ⟨_, rfl⟩
    rw [hn] at hv hm
    cases n with
    | zero => injection hv with hv; injection hm with hm; subst hv hm; exact hx
    | succ n => cases hv
end Go.Proofs.Ytnfabofkfnmplaa
