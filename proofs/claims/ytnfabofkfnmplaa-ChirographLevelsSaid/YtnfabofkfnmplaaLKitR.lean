
/- Slices of elements of several cells each: rows of structs that the program itself made and fills by append. -/
import Derived.Test.YtnfabofkfnmplaaLKit5
namespace Go.Proofs.Ytnfabofkfnmplaa
open Go.RowKit

section
variable {size : Nat}
theorem flat_len : ∀ (l : List (List Value)), (∀ x ∈ l, x.length = size) → l.flatten.length = l.length * size
  | [], _ => by simp
  | y :: l, h => by
    have ih := flat_len l fun x hx => h x (List.mem_cons_of_mem _ hx)
    rw [List.flatten_cons, List.length_append, ih, h y (List.mem_cons_self ..), List.length_cons, Nat.add_mul, Nat.one_mul, Nat.add_comm]
theorem flat_get : ∀ (l : List (List Value)), (∀ x ∈ l, x.length = size) → ∀ (k : Nat) (x : List Value) (j : Nat) (u : Value), l[k]? = some x → x[j]? = some u → l.flatten[k * size + j]? = some u
  | [], _, k, x, j, u, hk, _ => by cases hk
  | y :: l, h, 0, x, j, u, hk, hj => by
    injection hk with hk
    subst hk
    rw [Nat.zero_mul, Nat.zero_add, List.flatten_cons, List.getElem?_append_left (List.getElem?_eq_some_iff.1 hj).1]
    exact hj
  | y :: l, h, k + 1, x, j, u, hk, hj => by
    have ih := flat_get l (fun x hx => h x (List.mem_cons_of_mem _ hx)) k x j u hk hj
    have hy := h y (List.mem_cons_self ..)
    rw [List.flatten_cons, show (k + 1) * size + j = y.length + (k * size + j) by rw [hy, Nat.add_mul, Nat.one_mul]; omega, List.getElem?_append_right (by omega), Nat.add_sub_cancel_left]
    exact ih
theorem flat_setN : ∀ (l : List (List Value)), (∀ x ∈ l, x.length = size) → ∀ (k : Nat) (x : List Value) (j : Nat) (u : Value), l[k]? = some x → j < size → (l.set k (x.set j u)).flatten = l.flatten.set (k * size + j) u
  | [], _, k, x, j, u, hk, _ => by cases hk
  | y :: l, h, 0, x, j, u, hk, hj => by
    injection hk with hk
    subst hk
    have hy := h y (List.mem_cons_self ..)
    rw [List.set_cons_zero, List.flatten_cons, List.flatten_cons, Nat.zero_mul, Nat.zero_add, List.set_append_left _ _ (by omega)]
  | y :: l, h, k + 1, x, j, u, hk, hj => by
    have ih := flat_setN l (fun x hx => h x (List.mem_cons_of_mem _ hx)) k x j u hk hj
    have hy := h y (List.mem_cons_self ..)
    rw [List.set_cons_succ, List.flatten_cons, List.flatten_cons, ih, show (k + 1) * size + j = y.length + (k * size + j) by rw [hy, Nat.add_mul, Nat.one_mul]; omega, List.set_append_right _ _ (by omega), Nat.add_sub_cancel_left]
end
/-- The elements of a slice of the program's own, each of so many cells. -/
def RowN (w : World) (e : TypeId) (size : Nat) (v : Value) (l : List (List Value)) : Prop := (∀ x ∈ l, x.length = size) ∧ w.ownsRow 0 e size v l.length l.flatten
def InfoN (e : TypeId) (z : Value) (size b : Nat) : Prop := (Try.prog.info? e).map (fun i => (i.zero, i.size, i.bytes)) = some (some z, size, b) ∧ z.cells.size = size ∧ 1 ≤ b ∧ 0 < size
theorem RowN.nil (w : World) (e : TypeId) (size : Nat) : RowN w e size (.slice none 0 0) [] := ⟨by simp, World.ownsRow_nil w _ _ _⟩
section
variable {w w' : World} {e : TypeId} {v z : Value} {size b : Nat} {l : List (List Value)}
/-- append to such a slice: the same block, or a new one. -/
theorem run_append_rowN (h : RowN w e size v l) (hinfo : InfoN e z size b) (t ty : TypeId) (ht : Try.prog.underlying t = some (.slice e)) (a : Addr) (m c : Nat) (news : List (List Value)) (hl : news.length = m) (hns : ∀ x ∈ news, x.length = size) (hnews : ∀ j u, news.flatten[j]? = some u → w.cell? (a.add j) = some u) (hone : ∀ u ∈ news.flatten, u.oneCell' = true) (hlen : (l.length + m) * b ≤ 140737488355328) :
    ∃ v' w', (Builtin.append_ #[t, t] ty #[v, .slice (some a) m c]).run Try.prog w = .ok v' w' ∧ RowN w' e size v' (l ++ news) ∧ w.grownBy w' v.ownBlock ∧ (v'.ownBlock = v.ownBlock ∨ ∃ k, w.heap.size ≤ k ∧ v'.ownBlock = some k) := by
  obtain ⟨hinf, hzc, hb1, hsz⟩ := hinfo
  obtain ⟨i5, hi, hz0, hz1, hz2⟩ := info_parts hinf
  subst hl
  have hn := flat_len news hns
  have hsum : l.length + news.length ≤ (l.length + news.length) * b := Nat.le_mul_of_pos_right _ hb1
  have hmax : l.length + news.length ≤ maxLen := Nat.le_trans (Nat.le_trans hsum hlen) (by decide)
  have hxl : (l ++ news).length = l.length + news.length := List.length_append
  have hall : ∀ x ∈ l ++ news, x.length = size := fun x hx => (List.mem_append.1 hx).elim (h.1 x) (hns x)
  have hfl : (l ++ news).flatten = l.flatten ++ news.flatten := List.flatten_append
  rcases h.2.2 with ⟨rfl, h0⟩ | ⟨g, cap, cur, rfl, _, hg⟩
  · have hxs : l = [] := List.eq_nil_of_length_eq_zero h0
    subst hxs
    obtain ⟨v', w', hrun, r1, r2, _⟩ := run_append_own (P := Try.prog) w w.heap.size t ty _ i5 _ size b ht hi hz0 hz1 hz2 hzc hsz (.slice none 0 0) 0 [] (World.ownsRow_nil w _ _ _) a news.length c news.flatten hn hnews hone (by simpa using hmax) (by simpa using hlen) (Nat.le_refl _)
    refine ⟨v', w', hrun, ⟨hall, ?_⟩, r2, ?_⟩
    · simpa using owns_zero r1
    · rcases own_of_base r1 with e | ⟨k, hk, e⟩
      · exact .inl e
      · exact .inr ⟨k, hk, e⟩
  · by_cases hroom : l.length + news.length ≤ cap
    · obtain ⟨w', hrun, r1, r2⟩ := run_append_fits (P := Try.prog) w 0 t ty _ i5 size ht hi hz1 g l.length cap l.flatten h.2 a news.length c news.flatten hn hnews hone hroom
      refine ⟨_, w', hrun, ⟨hall, ?_⟩, r2, .inl rfl⟩
      rw [hxl, hfl]
      exact r1
    · obtain ⟨v', w', hrun, r1, r2⟩ := run_append_arg_grows (P := Try.prog) w t ty _ i5 _ size b ht hi hz0 hz1 hz2 hzc hsz ⟨g, 0, none⟩ l.length cap l.flatten (flat_len l h.1) (h.2.cells rfl) a news.length c news.flatten hn hnews (by omega) hmax (by omega)
      refine ⟨v', w', hrun, ⟨hall, ?_⟩, grown_none r2, ?_⟩
      · rw [hxl, hfl]
        exact owns_zero r1
      · rcases own_of_base r1 with e | ⟨k, hk, e⟩
        · exfalso
          rcases r1.2 with ⟨e2, h3⟩ | ⟨g2, c2, cu2, e2, _⟩
          · omega
          · rw [e2] at e; cases e
        · exact .inr ⟨k, hk, e⟩
variable {ops : Array Oper} {o : Oper} {a : Act}
theorem wp_append_rowN {K : Act → World → Prop} {Q : Exit → Act → World → Prop} (hinfo : InfoN e z size b) (s x : Operand) (t : TypeId) (hop : o.op = Op.call { callee := Callee.builtin Builtin.append, args := #[s, x], argTypes := #[t, t] }) (ht : Try.prog.underlying t = some (.slice e)) (hs : a.eval s = v) (h : RowN w e size v l)
    (ad : Addr) (m c : Nat) (news : List (List Value)) (hx : a.eval x = .slice (some ad) m c) (hl : news.length = m) (hns : ∀ x ∈ news, x.length = size) (hnews : ∀ j u, news.flatten[j]? = some u → w.cell? (ad.add j) = some u) (hone : ∀ u ∈ news.flatten, u.oneCell' = true) (hlen : (l.length + m) * b ≤ 140737488355328)
    (hK : ∀ v' w', RowN w' e size v' (l ++ news) → w.grownBy w' v.ownBlock → (v'.ownBlock = v.ownBlock ∨ ∃ k, w.heap.size ≤ k ∧ v'.ownBlock = some k) → K (a.put o.dst v') w') : Oper.wp Try.prog o a w K Q := by
  obtain ⟨v', w', hrun, r1, r2, r3⟩ := run_append_rowN h hinfo t o.type ht ad m c news hl hns hnews hone hlen
  unfold Oper.wp
  simp [execOp, hop, resolve, invoke, builtin, hs, hx, hrun, Result.andThen]
  exact hK v' w' r1 r2 r3
theorem wpList_append_rowN {rest : List Oper} {Q : Exit → Act → World → Prop} (hg : o.guard = none) (hinfo : InfoN e z size b) (s x : Operand) (t : TypeId) (hop : o.op = Op.call { callee := Callee.builtin Builtin.append, args := #[s, x], argTypes := #[t, t] }) (ht : Try.prog.underlying t = some (.slice e)) (hs : a.eval s = v) (h : RowN w e size v l)
    (ad : Addr) (m c : Nat) (news : List (List Value)) (hx : a.eval x = .slice (some ad) m c) (hl : news.length = m) (hns : ∀ x ∈ news, x.length = size) (hnews : ∀ j u, news.flatten[j]? = some u → w.cell? (ad.add j) = some u) (hone : ∀ u ∈ news.flatten, u.oneCell' = true) (hlen : (l.length + m) * b ≤ 140737488355328)
    (hK : ∀ v' w', RowN w' e size v' (l ++ news) → w.grownBy w' v.ownBlock → (v'.ownBlock = v.ownBlock ∨ ∃ k, w.heap.size ≤ k ∧ v'.ownBlock = some k) → wpList Try.prog ops Q rest (a.put o.dst v') w') : wpList Try.prog ops Q (o :: rest) a w :=
  wpList_plain hg fun _ hK' => wp_append_rowN hinfo s x t hop ht hs h ad m c news hx hl hns hnews hone hlen fun v' w' h1 h2 h3 => hK' _ _ (hK v' w' h1 h2 h3)
theorem RowN.form (h : RowN w e size v l) : (v = .slice none 0 0 ∧ l = []) ∨ ∃ g cap, v = .slice (some ⟨g, 0, none⟩) l.length cap ∧ l.length ≤ cap := by
  rcases h.2.2 with ⟨rfl, h0⟩ | ⟨g, cap, cur, rfl, _, _, hc, _⟩
  · exact .inl ⟨rfl, List.eq_nil_of_length_eq_zero h0⟩
  · exact .inr ⟨g, cap, rfl, hc⟩
theorem rowN_open (h : RowN w e size v l) : ∃ A c, v = .slice A l.length c ∧ RowN w e size (.slice A l.length c) l := by
  rcases h.form with ⟨rfl, rfl⟩ | ⟨g, cap, rfl, _⟩
  · exact ⟨_, _, rfl, h⟩
  · exact ⟨_, _, rfl, h⟩
/-- The same, without a length that is tied to the list. -/
theorem rowN_open' (h : RowN w e size v l) : ∃ A m c, v = .slice A m c ∧ m = l.length ∧ RowN w e size (.slice A m c) l := by
  obtain ⟨A, c, e, h⟩ := rowN_open h
  exact ⟨A, _, c, e, rfl, h⟩
theorem RowN.one (h : RowN w e size v l) : v.oneCell' = true := by
  rcases h.form with ⟨rfl, _⟩ | ⟨g, cap, rfl, _⟩ <;> rfl
theorem RowN.kept (h : RowN w e size v l) (hk : ∀ g, v.ownBlock = some g → w'.heap[g]? = w.heap[g]?) : RowN w' e size v l := by
  refine ⟨h.1, h.2.1, ?_⟩
  rcases h.2.2 with hn | ⟨g, cap, cur, rfl, hb, hg, rest⟩
  · exact .inl hn
  · exact .inr ⟨g, cap, cur, rfl, hb, by rw [hk g rfl]; exact hg, rest⟩
theorem RowN.lt (h : RowN w e size v l) {g : Nat} (hg : v.ownBlock = some g) : g < w.heap.size := (World.ownsRow.lt h.2 g hg).2
theorem RowN.at_ (h : RowN w e size v l) (hb : Below w.heap.size w w') : RowN w' e size v l := h.kept fun _ hg => hb.block _ (h.lt hg)
theorem RowN.alloc (h : RowN w e size v l) (o : Obj) : RowN (w.alloc o) e size v l := ⟨h.1, World.ownsRow.alloc h.2 o⟩
theorem RowN.drew (h : RowN w e size v l) : RowN w.drew e size v l := h
theorem RowN.drewN (h : RowN w e size v l) (n : Nat) : RowN (w.drewN n) e size v l := h
/-- A row that is written out. -/
theorem RowN.build (w : World) (e : TypeId) (size : Nat) (l : List (List Value)) (cs : Array Value) (n : Nat) (hc : cs = l.flatten.toArray) (hs : ∀ x ∈ l, x.length = size) (hn : l.length = n) (hl : n ≤ 4611686018427387904) : RowN (w.alloc (.cells cs e)) e size (.slice (some ⟨w.heap.size, 0, none⟩) n n) l := by
  subst hc hn
  exact ⟨hs, flat_len l hs, .inr ⟨w.heap.size, l.length, l.flatten.toArray, rfl, Nat.zero_le _, heap_alloc_new w _, Nat.le_refl _, Nat.le_trans hl (by decide), by rw [List.size_toArray]; exact flat_len l hs, by rw [List.take_of_length_le]; rw [Array.length_toList, List.size_toArray]; exact Nat.le_of_eq (flat_len l hs)⟩⟩
/-- Such a slice behind an append to another one. -/
theorem RowN.grown {row : Option Nat} (h : RowN w e size v l) (hg : w.grownBy w' row) (hr : ∀ g, v.ownBlock = some g → row ≠ some g) : RowN w' e size v l :=
  h.kept fun g hgo => hg.block g (h.lt hgo) (Ne.symm (hr g hgo))
theorem RowN.blk (h : RowN w e size v l) {g : Nat} (hg : v.ownBlock = some g) : ∃ cur, Blk w g cur e := by
  rcases h.2.2 with ⟨rfl, _⟩ | ⟨g', cap, cur, rfl, _, hh, _⟩
  · cases hg
  · injection hg with hg; subst hg; exact ⟨cur, hh⟩
theorem Row1.blk {xs : List Value} (h : Row1 w e v xs) {g : Nat} (hg : v.ownBlock = some g) : ∃ cur, Blk w g cur e := by
  rcases h.2 with ⟨rfl, _⟩ | ⟨g', cap, cur, rfl, _, hh, _⟩
  · cases hg
  · injection hg with hg; subst hg; exact ⟨cur, hh⟩
theorem blk_type_ne {g : Nat} {c c' : Array Value} {t t' : TypeId} (h : Blk w g c t) (h' : Blk w g c' t') : t = t' := by
  unfold Blk at h h'
  rw [h] at h'
  injection h' with h'
  injection h'
theorem RowN.only {g : Nat} {cs : Array Value} {t : TypeId} (h : RowN w e size v l) (hb : Blk w g cs t) (ht : e ≠ t) (ho : Only g w w') : RowN w' e size v l := by
  refine h.kept fun k hk => ho.block k ?_
  rintro rfl
  obtain ⟨cur, hcur⟩ := h.blk hk
  exact ht (blk_type_ne hcur hb)
/-- An element's cells. -/
theorem RowN.get (h : RowN w e size v l) {g : Nat} (hg : v.ownBlock = some g) {k : Nat} {x : List Value} (hk : l[k]? = some x) : w.rangeAt g (k * size) x := by
  intro j u hj
  have h1 := h.2.cells hg (k * size + j) u (flat_get l h.1 k x j u hk hj)
  rwa [Addr.add_mid, Nat.zero_add] at h1
end
/-- A slice that reads so, wherever it lies. -/
def SReadN (w : World) (size : Nat) (v : Value) (l : List (List Value)) : Prop :=
  ∃ A c, v = .slice A l.length c ∧ l.length ≤ c ∧ (l = [] ∨ ∃ g o, A = some ⟨g, o, none⟩ ∧ g < w.heap.size ∧ ∀ k x, l[k]? = some x → w.rangeAt g (o + k * size) x)
section
variable {w w' : World} {e : TypeId} {v : Value} {size : Nat} {l : List (List Value)}
theorem RowN.reads (h : RowN w e size v l) : SReadN w size v l := by
  rcases h.form with ⟨rfl, rfl⟩ | ⟨g, cap, rfl, hc⟩
  · exact ⟨none, 0, rfl, Nat.zero_le _, .inl rfl⟩
  · exact ⟨_, cap, rfl, hc, .inr ⟨g, 0, rfl, h.lt rfl, fun k x hk => by rw [Nat.zero_add]; exact h.get rfl hk⟩⟩
theorem SReadN.at_ (h : SReadN w size v l) (hb : Below w.heap.size w w') : SReadN w' size v l := by
  obtain ⟨A, c, h1, h2, h3⟩ := h
  refine ⟨A, c, h1, h2, h3.imp id ?_⟩
  rintro ⟨g, o, h4, h5, h6⟩
  exact ⟨g, o, h4, Nat.lt_of_lt_of_le h5 hb.size, fun k x hk j u hj => (hb.cell (p := ⟨g, o + k * size + j, none⟩) h5).trans (h6 k x hk j u hj)⟩
theorem sreadN_open (h : SReadN w size v l) : ∃ A c, v = .slice A l.length c ∧ l.length ≤ c ∧ SReadN w size (.slice A l.length c) l := by
  obtain ⟨A, c, rfl, h2, h3⟩ := h
  exact ⟨A, c, rfl, h2, A, c, rfl, h2, h3⟩
theorem sreadN_at {A : Option Addr} {n c k : Nat} {x : List Value} (h : SReadN w size (.slice A n c) l) (hk : l[k]? = some x) : ∃ g o, A = some ⟨g, o, none⟩ ∧ g < w.heap.size ∧ w.rangeAt g (o + k * size) x := by
  obtain ⟨A', c', h1, h2, h3⟩ := h
  injection h1 with e1 e2 e3
  subst e1
  rcases h3 with rfl | ⟨g, o, h4, h5, h6⟩
  · cases hk
  · exact ⟨g, o, h4, h5, h6 k x hk⟩
/-- One cell of an element of such a row is another one. -/
theorem RowN.set {g n cap : Nat} (h : RowN w e size (.slice (some ⟨g, 0, none⟩) n cap) l) {k j : Nat} {x : List Value} (hk : l[k]? = some x) (hj : j < size) (u : Value) : RowN (w.setCell ⟨g, k * size + j, none⟩ u) e size (.slice (some ⟨g, 0, none⟩) n cap) (l.set k (x.set j u)) := by
  have hx : x.length = size := h.1 x (List.mem_of_getElem? hk)
  refine ⟨fun y hy => ?_, ?_⟩
  · rcases List.mem_or_eq_of_mem_set hy with h1 | h1
    · exact h.1 y h1
    · rw [h1, List.length_set, hx]
  · have hfl := flat_setN l h.1 k x j u hk hj
    rcases h.2.2 with ⟨hv, _⟩ | ⟨g', cap', cur, hv, h1, h2, h3, h4, h5, h6⟩
    · cases hv
    · injection hv with e1 e2 e3
      injection e1 with e1
      injection e1 with e1
      subst e1 e2 e3
      refine ⟨by rw [hfl, List.length_set, List.length_set]; exact flat_len l h.1, .inr ⟨g, cap, cur.setIfInBounds (k * size + j) u, by rw [List.length_set], h1, Blk.set_ h2 _ u, by rw [List.length_set]; exact h3, h4, by rw [Array.size_setIfInBounds]; exact h5, ?_⟩⟩
      rw [List.length_set, hfl, Array.toList_setIfInBounds, List.take_set, h6]
theorem RowN.freeR {g n cap : Nat} (h : RowN w e size (.slice (some ⟨g, 0, none⟩) n cap) l) (k : Nat) : w.frozen? ⟨g, k, none⟩ = false := by
  obtain ⟨cur, hb⟩ := h.blk (g := g) rfl
  exact hb.free k
end
theorem rowN_shape {w : World} {e : TypeId} {A : Option Addr} {n c size : Nat} {l : List (List Value)} (h : RowN w e size (.slice A n c) l) (hl : l ≠ []) : ∃ g cur, A = some ⟨g, 0, none⟩ ∧ Blk w g cur e := by
  rcases h.form with ⟨hv, h0⟩ | ⟨g, cap, hv, _⟩
  · exact absurd h0 hl
  · injection hv with e1 _ _
    subst e1
    obtain ⟨cur, hb⟩ := h.blk (g := g) rfl
    exact ⟨g, cur, rfl, hb⟩
theorem RowN.ne_ {w : World} {e e' : TypeId} {size size' : Nat} {v v' : Value} {l l' : List (List Value)} (h : RowN w e size v l) (h' : RowN w e' size' v' l') (hne : e ≠ e') : ∀ g, v.ownBlock = some g → v'.ownBlock ≠ some g := by
  intro g hg hg'
  obtain ⟨_, h1⟩ := h.blk hg
  obtain ⟨_, h2⟩ := h'.blk hg'
  exact hne (blk_type_ne h1 h2)
theorem Row1.ne_N {w : World} {e e' : TypeId} {size' : Nat} {v v' : Value} {xs : List Value} {l' : List (List Value)} (h : Row1 w e v xs) (h' : RowN w e' size' v' l') (hne : e ≠ e') : ∀ g, v.ownBlock = some g → v'.ownBlock ≠ some g := by
  intro g hg hg'
  obtain ⟨_, h1⟩ := h.blk hg
  obtain ⟨_, h2⟩ := h'.blk hg'
  exact hne (blk_type_ne h1 h2)
/-- The cells of one element that lies alone in a new block. -/
theorem new_cellsN (w : World) (x : List Value) (cs : Array Value) (hc : cs = x.toArray) (t : TypeId) : ∀ (j : Nat) (u : Value), ([x] : List (List Value)).flatten[j]? = some u → (w.alloc (.cells cs t)).cell? ((⟨w.heap.size, 0, none⟩ : Addr).add j) = some u := by
  intro j u h
  rw [show ([x] : List (List Value)).flatten = x by simp] at h
  exact new_cells w x cs hc t j u h
end Go.Proofs.Ytnfabofkfnmplaa
