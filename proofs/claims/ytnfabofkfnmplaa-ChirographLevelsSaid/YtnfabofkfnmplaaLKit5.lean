
/- Slices of one-cell elements that the program itself made and fills by append: where they lie, and that nothing else changes. -/
import Derived.Test.YtnfabofkfnmplaaLKit3
namespace Go.Proofs.Ytnfabofkfnmplaa
open Go.RowKit

/-- The elements of a slice of the program's own, of one cell each. -/
def Row1 (w : World) (e : TypeId) (v : Value) (xs : List Value) : Prop := w.ownsRow 0 e 1 v xs.length xs
def Info1 (e : TypeId) (z : Value) (b : Nat) : Prop := (Try.prog.info? e).map (fun i => (i.zero, i.size, i.bytes)) = some (some z, 1, b) ∧ z.cells.size = 1 ∧ 1 ≤ b
theorem Row1.nil (w : World) (e : TypeId) : Row1 w e (.slice none 0 0) [] := World.ownsRow_nil w _ _ _
/-- append to such a slice: the same block, or a new one. -/
theorem run_append_row {w : World} {e : TypeId} {v z : Value} {b : Nat} {xs : List Value} (h : Row1 w e v xs) (hinfo : Info1 e z b) (t ty : TypeId) (ht : Try.prog.underlying t = some (.slice e)) (a : Addr) (m c : Nat) (news : List Value) (hl : news.length = m) (hnews : ∀ j u, news[j]? = some u → w.cell? (a.add j) = some u) (hone : ∀ u ∈ news, u.oneCell' = true) (hlen : (xs.length + m) * b ≤ 140737488355328) :
    ∃ v' w', (Builtin.append_ #[t, t] ty #[v, .slice (some a) m c]).run Try.prog w = .ok v' w' ∧ Row1 w' e v' (xs ++ news) ∧ w.grownBy w' v.ownBlock ∧ (v'.ownBlock = v.ownBlock ∨ ∃ k, w.heap.size ≤ k ∧ v'.ownBlock = some k) := by
  obtain ⟨hinf, hzc, hb1⟩ := hinfo
  obtain ⟨i5, hi, hz0, hz1, hz2⟩ := info_parts hinf
  subst hl
  have hn : news.length = news.length * 1 := by simp
  have hsum : xs.length + news.length ≤ (xs.length + news.length) * b := Nat.le_mul_of_pos_right _ hb1
  have hmax : xs.length + news.length ≤ maxLen := Nat.le_trans (Nat.le_trans hsum hlen) (by decide)
  have hxl : (xs ++ news).length = xs.length + news.length := List.length_append
  rcases h.2 with ⟨rfl, h0⟩ | ⟨g, cap, cur, rfl, _, hg⟩
  · have hxs : xs = [] := List.eq_nil_of_length_eq_zero h0
    subst hxs
    obtain ⟨v', w', hrun, r1, r2, _⟩ := run_append_own (P := Try.prog) w w.heap.size t ty _ i5 _ 1 b ht hi hz0 hz1 hz2 hzc (by omega) (.slice none 0 0) 0 [] (World.ownsRow_nil w _ _ _) a news.length c news hn hnews hone (by simpa using hmax) (by simpa using hlen) (Nat.le_refl _)
    refine ⟨v', w', hrun, ?_, r2, ?_⟩
    · unfold Row1
      simpa using owns_zero r1
    · rcases own_of_base r1 with e | ⟨k, hk, e⟩
      · exact .inl e
      · exact .inr ⟨k, hk, e⟩
  · by_cases hroom : xs.length + news.length ≤ cap
    · obtain ⟨w', hrun, r1, r2⟩ := run_append_fits (P := Try.prog) w 0 t ty _ i5 1 ht hi hz1 g xs.length cap xs h a news.length c news hn hnews hone hroom
      refine ⟨_, w', hrun, ?_, r2, .inl rfl⟩
      unfold Row1
      rw [hxl]
      exact r1
    · obtain ⟨v', w', hrun, r1, r2⟩ := run_append_arg_grows (P := Try.prog) w t ty _ i5 _ 1 b ht hi hz0 hz1 hz2 hzc (by omega) ⟨g, 0, none⟩ xs.length cap xs (by simp) (h.cells rfl) a news.length c news hn hnews (by omega) hmax (by omega)
      refine ⟨v', w', hrun, ?_, grown_none r2, ?_⟩
      · unfold Row1
        rw [hxl]
        exact owns_zero r1
      · rcases own_of_base r1 with e | ⟨k, hk, e⟩
        · exfalso
          rcases r1.2 with ⟨e2, h3⟩ | ⟨g2, c2, cu2, e2, _⟩
          · omega
          · rw [e2] at e; cases e
        · exact .inr ⟨k, hk, e⟩
section
variable {ops : Array Oper} {o : Oper} {a : Act} {w w' : World} {e : TypeId} {v z : Value} {b : Nat} {xs : List Value}
theorem wp_append_row {K : Act → World → Prop} {Q : Exit → Act → World → Prop} (hinfo : Info1 e z b) (s x : Operand) (t : TypeId) (hop : o.op = Op.call { callee := Callee.builtin Builtin.append, args := #[s, x], argTypes := #[t, t] }) (ht : Try.prog.underlying t = some (.slice e)) (hs : a.eval s = v) (h : Row1 w e v xs)
    (ad : Addr) (m c : Nat) (news : List Value) (hx : a.eval x = .slice (some ad) m c) (hl : news.length = m) (hnews : ∀ j u, news[j]? = some u → w.cell? (ad.add j) = some u) (hone : ∀ u ∈ news, u.oneCell' = true) (hlen : (xs.length + m) * b ≤ 140737488355328)
    (hK : ∀ v' w', Row1 w' e v' (xs ++ news) → w.grownBy w' v.ownBlock → (v'.ownBlock = v.ownBlock ∨ ∃ k, w.heap.size ≤ k ∧ v'.ownBlock = some k) → K (a.put o.dst v') w') : Oper.wp Try.prog o a w K Q := by
  obtain ⟨v', w', hrun, r1, r2, r3⟩ := run_append_row h hinfo t o.type ht ad m c news hl hnews hone hlen
  unfold Oper.wp
  simp [execOp, hop, resolve, invoke, builtin, hs, hx, hrun, Result.andThen]
  exact hK v' w' r1 r2 r3
theorem wpList_append_row {rest : List Oper} {Q : Exit → Act → World → Prop} (hg : o.guard = none) (hinfo : Info1 e z b) (s x : Operand) (t : TypeId) (hop : o.op = Op.call { callee := Callee.builtin Builtin.append, args := #[s, x], argTypes := #[t, t] }) (ht : Try.prog.underlying t = some (.slice e)) (hs : a.eval s = v) (h : Row1 w e v xs)
    (ad : Addr) (m c : Nat) (news : List Value) (hx : a.eval x = .slice (some ad) m c) (hl : news.length = m) (hnews : ∀ j u, news[j]? = some u → w.cell? (ad.add j) = some u) (hone : ∀ u ∈ news, u.oneCell' = true) (hlen : (xs.length + m) * b ≤ 140737488355328)
    (hK : ∀ v' w', Row1 w' e v' (xs ++ news) → w.grownBy w' v.ownBlock → (v'.ownBlock = v.ownBlock ∨ ∃ k, w.heap.size ≤ k ∧ v'.ownBlock = some k) → wpList Try.prog ops Q rest (a.put o.dst v') w') : wpList Try.prog ops Q (o :: rest) a w :=
  wpList_plain hg fun _ hK' => wp_append_row hinfo s x t hop ht hs h ad m c news hx hl hnews hone hlen fun v' w' h1 h2 h3 => hK' _ _ (hK v' w' h1 h2 h3)
theorem step_append_row {K : Act → World → Prop} {Q : Exit → Act → World → Prop} {E : Prop} (hg : o.guard = none) (hinfo : Info1 e z b) (s x : Operand) (t : TypeId) (hop : o.op = Op.call { callee := Callee.builtin Builtin.append, args := #[s, x], argTypes := #[t, t] }) (ht : Try.prog.underlying t = some (.slice e)) (hs : a.eval s = v) (h : Row1 w e v xs)
    (ad : Addr) (m c : Nat) (news : List Value) (hx : a.eval x = .slice (some ad) m c) (hl : news.length = m) (hnews : ∀ j u, news[j]? = some u → w.cell? (ad.add j) = some u) (hone : ∀ u ∈ news, u.oneCell' = true) (hlen : (xs.length + m) * b ≤ 140737488355328)
    (hK : ∀ v' w', Row1 w' e v' (xs ++ news) → w.grownBy w' v.ownBlock → (v'.ownBlock = v.ownBlock ∨ ∃ k, w.heap.size ≤ k ∧ v'.ownBlock = some k) → K (a.put o.dst v') w') : if Region.wanted o (yielded ops a.tmps) = true then Oper.wp Try.prog o a w K Q else E := by
  rw [if_pos (show Region.wanted o (yielded ops a.tmps) = true by simp [Region.wanted, hg])]
  exact wp_append_row hinfo s x t hop ht hs h ad m c news hx hl hnews hone hlen hK
theorem Row1.form (h : Row1 w e v xs) : (v = .slice none 0 0 ∧ xs = []) ∨ ∃ g cap, v = .slice (some ⟨g, 0, none⟩) xs.length cap ∧ xs.length ≤ cap := by
  rcases h.2 with ⟨rfl, h0⟩ | ⟨g, cap, cur, rfl, _, _, hc, _⟩
  · exact .inl ⟨rfl, List.eq_nil_of_length_eq_zero h0⟩
  · exact .inr ⟨g, cap, rfl, hc⟩
theorem Row1.form_len (h : Row1 w e v xs) {n : Nat} (hn : xs.length = n) (h0 : 0 < n) : ∃ g cap, v = .slice (some ⟨g, 0, none⟩) n cap ∧ n ≤ cap := by
  rcases h.form with ⟨_, e0⟩ | ⟨g, cap, h1, h2⟩
  · rw [e0] at hn; simp at hn; omega
  · rw [hn] at h1 h2; exact ⟨g, cap, h1, h2⟩
theorem Row1.kept (h : Row1 w e v xs) (hk : ∀ g, v.ownBlock = some g → w'.heap[g]? = w.heap[g]?) : Row1 w' e v xs := by
  refine ⟨h.1, ?_⟩
  rcases h.2 with hn | ⟨g, cap, cur, rfl, hb, hg, rest⟩
  · exact .inl hn
  · exact .inr ⟨g, cap, cur, rfl, hb, by rw [hk g rfl]; exact hg, rest⟩
theorem Row1.lt (h : Row1 w e v xs) {g : Nat} (hg : v.ownBlock = some g) : g < w.heap.size := (World.ownsRow.lt h g hg).2
theorem Row1.at_ (h : Row1 w e v xs) (hb : Below w.heap.size w w') : Row1 w' e v xs := h.kept fun _ hg => hb.block _ (h.lt hg)
theorem Row1.alloc (h : Row1 w e v xs) (o : Obj) : Row1 (w.alloc o) e v xs := World.ownsRow.alloc h o
theorem Row1.drew (h : Row1 w e v xs) : Row1 w.drew e v xs := h
theorem Row1.drewN (h : Row1 w e v xs) (n : Nat) : Row1 (w.drewN n) e v xs := h
theorem Row1.cell (h : Row1 w e v xs) {g : Nat} (hg : v.ownBlock = some g) (j : Nat) (u : Value) (hj : xs[j]? = some u) : w.cell? ⟨g, j, none⟩ = some u := by
  have := h.cells hg j u hj
  rwa [Addr.add_mid, Nat.zero_add] at this
/-- A slice that is written out. -/
theorem Row1.build (w : World) (e : TypeId) (l : List Value) (cs : Array Value) (n : Nat) (hc : cs = l.toArray) (hn : l.length = n) (hl : n ≤ 4611686018427387904) : Row1 (w.alloc (.cells cs e)) e (.slice (some ⟨w.heap.size, 0, none⟩) n n) l := by
  subst hc hn
  exact ⟨by simp, .inr ⟨w.heap.size, l.length, l.toArray, rfl, Nat.zero_le _, heap_alloc_new w _, Nat.le_refl _, Nat.le_trans hl (by decide), by simp, by simp⟩⟩
theorem new_cells (w : World) (l : List Value) (cs : Array Value) (hc : cs = l.toArray) (t : TypeId) : ∀ (j : Nat) (u : Value), l[j]? = some u → (w.alloc (.cells cs t)).cell? ((⟨w.heap.size, 0, none⟩ : Addr).add j) = some u := by
  intro j u h
  subst hc
  rw [Addr.add_mid, cell_of_row _ _ _ _ _ _ (heap_alloc_new w _)]
  simpa using h
/-- The block of such a slice, as it moves. -/
theorem own_later {B : Nat} {v v' : Value} {w : World} (h : v.ownBlock = none ∨ ∃ k, B ≤ k ∧ v.ownBlock = some k) (hB : B ≤ w.heap.size) (hr : v'.ownBlock = v.ownBlock ∨ ∃ k, w.heap.size ≤ k ∧ v'.ownBlock = some k) : v'.ownBlock = none ∨ ∃ k, B ≤ k ∧ v'.ownBlock = some k := by
  rcases hr with e | ⟨k, hk, e⟩
  · rw [e]; exact h
  · exact .inr ⟨k, by omega, e⟩
theorem below_grown_own {B : Nat} {a w w' : World} {v : Value} (h : Below B a w) (hB : B ≤ w.heap.size) (hg : w.grownBy w' v.ownBlock) (hv : v.ownBlock = none ∨ ∃ k, B ≤ k ∧ v.ownBlock = some k) : Below B a w' :=
  below_grown h hB hg fun k hk => by
    rcases hv with e | ⟨j, hj, e⟩
    · rw [e] at hk; cases hk
    · rw [e] at hk; injection hk with hk; omega
end
theorem Row1.ne_ {w : World} {e e' : TypeId} {v v' : Value} {xs ys : List Value} (h : Row1 w e v xs) (h' : Row1 w e' v' ys) (hne : e ≠ e') : ∀ g, v.ownBlock = some g → v'.ownBlock ≠ some g := by
  intro g hg hg'
  rcases h.2 with ⟨rfl, _⟩ | ⟨b, cap, cur, rfl, _, hh, _⟩
  · simp [Value.ownBlock] at hg
  · rcases h'.2 with ⟨rfl, _⟩ | ⟨b', cap', cur', rfl, _, hh', _⟩
    · simp [Value.ownBlock] at hg'
    · simp only [Value.ownBlock, Option.some.injEq] at hg hg'
      subst hg hg'
      rw [hh] at hh'
      injection hh' with hh'
      injection hh' with _ ht
      exact hne ht
/-- Such a slice behind an append to another one. -/
theorem Row1.grown {w w' : World} {e : TypeId} {v : Value} {xs : List Value} {row : Option Nat} (h : Row1 w e v xs) (hg : w.grownBy w' row) (hr : ∀ g, v.ownBlock = some g → row ≠ some g) : Row1 w' e v xs :=
  h.kept fun g hgo => hg.block g (h.lt hgo) (Ne.symm (hr g hgo))
def intV (n : Nat) : Value := .int .i64 (n : Int)
theorem info_int : Info1 3 (.int .i64 0) 8 := ⟨by kernel_rfl, rfl, by omega⟩
theorem int_one (l : List Nat) : ∀ u ∈ l.map intV, u.oneCell' = true := by
  intro u hu
  obtain ⟨b, _, rfl⟩ := List.mem_map.1 hu
  rfl
/-- A slice that reads as these cells, wherever it lies. -/
def SRead (w : World) (v : Value) (xs : List Value) : Prop :=
  ∃ A c, v = .slice A xs.length c ∧ xs.length ≤ c ∧ (xs = [] ∨ ∃ g o, A = some ⟨g, o, none⟩ ∧ g < w.heap.size ∧ ∀ j u, xs[j]? = some u → w.cell? ⟨g, o + j, none⟩ = some u)
theorem Row1.reads {w : World} {e : TypeId} {v : Value} {xs : List Value} (h : Row1 w e v xs) : SRead w v xs := by
  rcases h.form with ⟨rfl, rfl⟩ | ⟨g, cap, rfl, hc⟩
  · exact ⟨none, 0, rfl, Nat.zero_le _, .inl rfl⟩
  · exact ⟨_, cap, rfl, hc, .inr ⟨g, 0, rfl, h.lt rfl, fun j u hj => by rw [Nat.zero_add]; exact h.cell rfl j u hj⟩⟩
theorem SRead.at_ {w w' : World} {v : Value} {xs : List Value} (h : SRead w v xs) (hb : Below w.heap.size w w') : SRead w' v xs := by
  obtain ⟨A, c, h1, h2, h3⟩ := h
  refine ⟨A, c, h1, h2, h3.imp id ?_⟩
  rintro ⟨g, o, h4, h5, h6⟩
  exact ⟨g, o, h4, Nat.lt_of_lt_of_le h5 hb.size, fun j u hj => (hb.cell (p := ⟨g, o + j, none⟩) h5).trans (h6 j u hj)⟩
/-- Its beginning. -/
theorem SRead.take {w : World} {A : Option Addr} {xs : List Value} {c n : Nat} (h : SRead w (.slice A xs.length c) xs) (hn : n ≤ xs.length) : SRead w (.slice A n c) (xs.take n) := by
  obtain ⟨A', c', h1, h2, h3⟩ := h
  injection h1 with h1 _ h1c
  subst h1 h1c
  have hl : (xs.take n).length = n := by rw [List.length_take]; omega
  refine ⟨A, c, by rw [hl], by omega, ?_⟩
  rcases h3 with rfl | ⟨g, o, h4, h5, h6⟩
  · exact .inl (by simp)
  · exact .inr ⟨g, o, h4, h5, fun j u hj => h6 j u (by
      rw [List.getElem?_take] at hj
      split at hj
      · exact hj
      · cases hj)⟩
/-- A text as a value. -/
def strV (t : List UInt8) : Value := .string ⟨t.toArray⟩
theorem info_str : Info1 9 (.string ⟨#[]⟩) 16 := ⟨by kernel_rfl, rfl, by omega⟩
theorem str_one (l : List (List UInt8)) : ∀ u ∈ l.map strV, u.oneCell' = true := by
  intro u hu
  obtain ⟨b, _, rfl⟩ := List.mem_map.1 hu
  rfl
end Go.Proofs.Ytnfabofkfnmplaa
