/- Plain laws: tables in levels; what a job leaves of them. No program in sight. -/
import Derived.Test.YtnfabofkfnmplaaPureLvA
namespace Go.Proofs.Ytnfabofkfnmplaa
namespace L
structure Fi where
  num : Nat
  lev : Nat
  size : Nat
  first : List UInt8
  last : List UInt8
structure St where
  next : Nat
  log : Nat
  files : List Fi
/-- The order of files in a state. -/
def S (a b : Fi) : Prop := a.lev < b.lev ∨ (a.lev = b.lev ∧ ((a.lev = 0 ∧ b.num < a.num) ∨ (0 < a.lev ∧ B a.last b.first = true)))
def KeyOk (k : List UInt8) : Prop := 0 < k.length ∧ k.length ≤ 100
structure FileOk (f : Fi) (t : List En) : Prop where
  some_ : ∃ x y, t.head? = some x ∧ t.getLast? = some y ∧ f.first = x.key ∧ f.last = y.key
  up : Up t
  size : f.size = 8 * t.length
  keys : ∀ x ∈ t, KeyOk x.key
def tbl (T : List (List En)) (f : Fi) : List En := T.getD f.num []
def H (T : List (List En)) (k : List UInt8) (fs : List Fi) : Option En := hit k (fs.map (tbl T))
/-- A key lies in a range. -/
def In (k a b : List UInt8) : Prop := B k a = false ∧ B b k = false
theorem up_bounds : ∀ {t : List En} {x y : En}, Up t → t.head? = some x → t.getLast? = some y → ∀ z ∈ t, In z.key x.key y.key
  | [], _, _, _, h, _, _, _ => by cases h
  | [a], x, y, _, h, h', z, hz => by
    simp at h h' hz
    subst h h' hz
    exact ⟨B_irr _, B_irr _⟩
  | a :: b :: t, x, y, hu, h, h', z, hz => by
    simp at h
    subst h
    obtain ⟨h1, h2⟩ := List.pairwise_cons.1 hu
    rw [List.getLast?_cons_cons] at h'
    have ih := up_bounds (t := b :: t) h2 rfl h'
    rcases List.mem_cons.1 hz with rfl | hz
    · exact ⟨B_irr _, B_as (h1 y (List.mem_of_getLast? h'))⟩
    · exact ⟨B_as (h1 z hz), (ih z hz).2⟩
theorem FileOk.ne {f : Fi} {t : List En} (h : FileOk f t) : t ≠ [] := by
  obtain ⟨x, y, h1, _⟩ := h.some_
  rintro rfl
  cases h1
theorem FileOk.cov {f : Fi} {t : List En} (h : FileOk f t) : ∀ z ∈ t, In z.key f.first f.last := by
  obtain ⟨x, y, h1, h2, h3, h4⟩ := h.some_
  rw [h3, h4]
  exact up_bounds h.up h1 h2
theorem FileOk.le {f : Fi} {t : List En} (h : FileOk f t) : B f.last f.first = false := by
  obtain ⟨x, y, h1, h2, h3, h4⟩ := h.some_
  have := (h.cov y (List.mem_of_getLast? h2)).1
  rw [h4]; exact this
theorem FileOk.fk {f : Fi} {t : List En} (h : FileOk f t) : KeyOk f.first ∧ KeyOk f.last := by
  obtain ⟨x, y, h1, h2, h3, h4⟩ := h.some_
  rw [h3, h4]
  exact ⟨h.keys x (List.mem_of_mem_head? h1), h.keys y (List.mem_of_getLast? h2)⟩
theorem FileOk.out {f : Fi} {t : List En} (h : FileOk f t) {k : List UInt8} (hk : ¬ In k f.first f.last) : get k t = none :=
  get_none fun z hz e => hk (e ▸ h.cov z hz)
structure Inv (i c : Nat) (s : St) (T : List (List En)) (W : List En) : Prop where
  next : T.length = s.next
  nextB : s.next ≤ c
  log : s.log = 0
  files : ∀ f ∈ s.files, f.num < s.next ∧ f.lev < 4 ∧ FileOk f (tbl T f)
  sorted : s.files.Pairwise S
  nums : s.files.Pairwise fun a b => a.num ≠ b.num
  upW : Up W
  look : ∀ k, live (H T k s.files) = live (get k W)
  tot : total (s.files.map (tbl T)) ≤ 20 * i
  few : s.files.length ≤ i
theorem Inv.start : Inv 0 0 ⟨0, 0, []⟩ [] [] := ⟨rfl, Nat.le_refl _, rfl, by simp, List.Pairwise.nil, List.Pairwise.nil, List.Pairwise.nil, fun k => rfl, by simp [total], by simp⟩
theorem Inv.more {i c i' c' : Nat} {s : St} {T : List (List En)} {W : List En} (h : Inv i c s T W) (hi : i ≤ i') (hc : c ≤ c') : Inv i' c' s T W :=
  { h with nextB := Nat.le_trans h.nextB hc, tot := Nat.le_trans h.tot (Nat.mul_le_mul_left _ hi), few := Nat.le_trans h.few hi }
theorem tbl_app (T : List (List En)) (t : List En) {f : Fi} (h : f.num < T.length) : tbl (T ++ [t]) f = tbl T f := by
  unfold tbl
  rw [List.getD_eq_getElem?_getD, List.getD_eq_getElem?_getD, List.getElem?_append_left h]
theorem tbl_new (T : List (List En)) (t : List En) {f : Fi} (h : f.num = T.length) : tbl (T ++ [t]) f = t := by
  unfold tbl
  rw [List.getD_eq_getElem?_getD, h, List.getElem?_append_right (Nat.le_refl _), Nat.sub_self]; rfl
theorem map_tbl_app (T : List (List En)) (t : List En) {fs : List Fi} (h : ∀ f ∈ fs, f.num < T.length) : fs.map (tbl (T ++ [t])) = fs.map (tbl T) :=
  List.map_congr_left fun f hf => tbl_app T t (h f hf)
theorem H_append (T : List (List En)) (k : List UInt8) (a b : List Fi) : H T k (a ++ b) = (H T k a).or (H T k b) := by
  unfold H
  rw [List.map_append, hit_append]
theorem H_cons (T : List (List En)) (k : List UInt8) (f : Fi) (b : List Fi) : H T k (f :: b) = (get k (tbl T f)).or (H T k b) := rfl
theorem H_none {T : List (List En)} {k : List UInt8} {fs : List Fi} (h : ∀ f ∈ fs, get k (tbl T f) = none) : H T k fs = none := by
  unfold H
  refine hit_none fun l hl => ?_
  obtain ⟨f, hf, rfl⟩ := List.mem_map.1 hl
  exact h f hf
theorem none_H {T : List (List En)} {k : List UInt8} : ∀ {fs : List Fi}, H T k fs = none → ∀ f ∈ fs, get k (tbl T f) = none
  | [], _, _, h => by cases h
  | g :: fs, h, f, hf => by
    rw [H_cons] at h
    have h1 : get k (tbl T g) = none := by
      cases hg : get k (tbl T g) with
      | none => rfl
      | some e => rw [hg] at h; cases h
    rw [h1, Option.none_or] at h
    rcases List.mem_cons.1 hf with rfl | hf
    · exact h1
    · exact none_H h f hf
theorem H_filter {T : List (List En)} {k : List UInt8} {p : Fi → Bool} : ∀ {fs : List Fi}, (∀ f ∈ fs, p f = false → get k (tbl T f) = none) → H T k (fs.filter p) = H T k fs
  | [], _ => rfl
  | f :: fs, h => by
    have ih := H_filter (p := p) fun f hf => h f (List.mem_cons_of_mem _ hf)
    rw [List.filter_cons, H_cons]
    cases hp : p f with
    | true => rw [if_pos rfl, H_cons, ih]
    | false => rw [if_neg (by simp), ih, h f List.mem_cons_self hp, Option.none_or]
/-- By levels. -/
theorem lev_split {fs : List Fi} (h : fs.Pairwise fun a b => a.lev ≤ b.lev) (m : Nat) : fs = fs.filter (fun f => decide (f.lev < m)) ++ fs.filter (fun f => decide (m ≤ f.lev)) := by
  induction fs with
  | nil => rfl
  | cons f fs ih =>
    obtain ⟨h1, h2⟩ := List.pairwise_cons.1 h
    rw [List.filter_cons, List.filter_cons]
    by_cases hf : f.lev < m
    · rw [if_pos (decide_eq_true hf), if_neg (by simp; omega), List.cons_append, ← ih h2]
    · rw [if_neg (by simp; omega), if_pos (by simp; omega)]
      have : fs.filter (fun f => decide (f.lev < m)) = [] := by
        rw [List.filter_eq_nil_iff]
        intro x hx
        have := h1 x hx
        simp; omega
      rw [this, List.nil_append]
      have h3 : fs.filter (fun f => decide (m ≤ f.lev)) = fs := by
        rw [List.filter_eq_self]
        intro x hx
        have := h1 x hx
        simp; omega
      rw [h3]
theorem S_lev {a b : Fi} (h : S a b) : a.lev ≤ b.lev := by
  rcases h with h | ⟨h, _⟩ <;> omega
theorem H_levels {T : List (List En)} (k : List UInt8) {fs : List Fi} (hs : fs.Pairwise S) (n : Nat) :
    H T k fs = (H T k (fs.filter fun f => decide (f.lev < n))).or ((H T k (fs.filter fun f => decide (f.lev = n))).or ((H T k (fs.filter fun f => decide (f.lev = n + 1))).or (H T k (fs.filter fun f => decide (n + 2 ≤ f.lev))))) := by
  have hl : fs.Pairwise fun a b => a.lev ≤ b.lev := hs.imp S_lev
  have e1 := lev_split hl n
  have e2 := lev_split (hl.filter (fun f => decide (n ≤ f.lev))) (n + 1)
  have e3 := lev_split ((hl.filter (fun f => decide (n ≤ f.lev))).filter (fun f => decide (n + 1 ≤ f.lev))) (n + 2)
  rw [List.filter_filter, List.filter_filter] at e2
  rw [List.filter_filter, List.filter_filter, List.filter_filter] at e3
  have f1 : (fs.filter fun f => decide (f.lev < n + 1) && decide (n ≤ f.lev)) = fs.filter fun f => decide (f.lev = n) := List.filter_congr fun f _ => by
    by_cases h : f.lev = n <;> simp [h] <;> omega
  have f2 : (fs.filter fun f => decide (n + 1 ≤ f.lev) && decide (n ≤ f.lev)) = fs.filter fun f => decide (n + 1 ≤ f.lev) := List.filter_congr fun f _ => by
    by_cases h : n + 1 ≤ f.lev <;> simp [h] <;> omega
  have f3 : (fs.filter fun f => decide (f.lev < n + 2) && (decide (n + 1 ≤ f.lev) && decide (n ≤ f.lev))) = fs.filter fun f => decide (f.lev = n + 1) := List.filter_congr fun f _ => by
    by_cases h : f.lev = n + 1 <;> simp [h] <;> omega
  have f4 : (fs.filter fun f => decide (n + 2 ≤ f.lev) && (decide (n + 1 ≤ f.lev) && decide (n ≤ f.lev))) = fs.filter fun f => decide (n + 2 ≤ f.lev) := List.filter_congr fun f _ => by
    by_cases h : n + 2 ≤ f.lev <;> simp [h] <;> omega
  rw [f1, f2] at e2
  rw [f2, f3, f4] at e3
  conv => lhs; rw [e1, e2, e3]
  rw [H_append, H_append, H_append]
/-! ### jobs -/
def minB (a b : List UInt8) : List UInt8 := if B b a = true then b else a
def maxB (a b : List UInt8) : List UInt8 := if B a b = true then b else a
def spanGo (p : List UInt8 × List UInt8) (l : List Fi) : List UInt8 × List UInt8 := l.foldl (fun p f => (minB p.1 f.first, maxB p.2 f.last)) p
/-- A range from the least first key to the greatest last one. -/
def span : List Fi → List UInt8 × List UInt8
  | [] => ([], [])
  | f :: l => spanGo (f.first, f.last) (f :: l)
def meets (p : List UInt8 × List UInt8) (f : Fi) : Bool := !B f.last p.1 && !B p.2 f.first
theorem minB_le (a b : List UInt8) : B a (minB a b) = false ∧ B b (minB a b) = false := by
  unfold minB
  split
  · rename_i h; exact ⟨B_as h, B_irr _⟩
  · rename_i h; exact ⟨B_irr _, by simpa using h⟩
theorem maxB_le (a b : List UInt8) : B (maxB a b) a = false ∧ B (maxB a b) b = false := by
  unfold maxB
  split
  · rename_i h; exact ⟨B_as h, B_irr _⟩
  · rename_i h; exact ⟨B_irr _, by simpa using h⟩
theorem minB_or (a b : List UInt8) : minB a b = a ∨ minB a b = b := by unfold minB; split <;> simp
theorem maxB_or (a b : List UInt8) : maxB a b = a ∨ maxB a b = b := by unfold maxB; split <;> simp
theorem spanGo_spec : ∀ (l : List Fi) (p : List UInt8 × List UInt8),
    B p.1 (spanGo p l).1 = false ∧ B (spanGo p l).2 p.2 = false ∧ (∀ f ∈ l, B f.first (spanGo p l).1 = false ∧ B (spanGo p l).2 f.last = false) ∧ ((spanGo p l).1 = p.1 ∨ ∃ f ∈ l, (spanGo p l).1 = f.first) ∧ ((spanGo p l).2 = p.2 ∨ ∃ f ∈ l, (spanGo p l).2 = f.last)
  | [], p => ⟨B_irr _, B_irr _, by simp, .inl rfl, .inl rfl⟩
  | f :: l, p => by
    obtain ⟨h1, h2, h3, h4, h5⟩ := spanGo_spec l (minB p.1 f.first, maxB p.2 f.last)
    have e : spanGo p (f :: l) = spanGo (minB p.1 f.first, maxB p.2 f.last) l := rfl
    rw [e]
    obtain ⟨m1, m2⟩ := minB_le p.1 f.first
    obtain ⟨m3, m4⟩ := maxB_le p.2 f.last
    refine ⟨B_le_le h1 m1, B_le_le m3 h2, fun g hg => ?_, ?_, ?_⟩
    · rcases List.mem_cons.1 hg with rfl | hg
      · exact ⟨B_le_le h1 m2, B_le_le m4 h2⟩
      · exact h3 g hg
    · rcases h4 with h4 | ⟨g, hg, h4⟩
      · rcases minB_or p.1 f.first with h6 | h6
        · exact .inl (h4.trans h6)
        · exact .inr ⟨f, List.mem_cons_self, h4.trans h6⟩
      · exact .inr ⟨g, List.mem_cons_of_mem _ hg, h4⟩
    · rcases h5 with h5 | ⟨g, hg, h5⟩
      · rcases maxB_or p.2 f.last with h6 | h6
        · exact .inl (h5.trans h6)
        · exact .inr ⟨f, List.mem_cons_self, h5.trans h6⟩
      · exact .inr ⟨g, List.mem_cons_of_mem _ hg, h5⟩
theorem span_spec {l : List Fi} (hl : l ≠ []) : (∀ f ∈ l, B f.first (span l).1 = false ∧ B (span l).2 f.last = false) ∧ (∃ f ∈ l, (span l).1 = f.first) ∧ (∃ f ∈ l, (span l).2 = f.last) := by
  cases l with
  | nil => exact absurd rfl hl
  | cons f l =>
    obtain ⟨_, _, h3, h4, h5⟩ := spanGo_spec (f :: l) (f.first, f.last)
    refine ⟨h3, ?_, ?_⟩
    · rcases h4 with h4 | h4
      · exact ⟨f, List.mem_cons_self, h4⟩
      · exact h4
    · rcases h5 with h5 | h5
      · exact ⟨f, List.mem_cons_self, h5⟩
      · exact h5
theorem meets_no {p : List UInt8 × List UInt8} {f : Fi} (h : meets p f = false) : B f.last p.1 = true ∨ B p.2 f.first = true := by
  unfold meets at h
  cases h1 : B f.last p.1 with
  | true => exact .inl rfl
  | false => rw [h1] at h; right; simpa using h
theorem meets_yes {p : List UInt8 × List UInt8} {f : Fi} (h : meets p f = true) : B f.last p.1 = false ∧ B p.2 f.first = false := by
  unfold meets at h
  simpa using h
def atL (s : St) (n : Nat) : List Fi := s.files.filter fun f => decide (f.lev = n)
structure Jb where
  lev : Nat
  from_ : List Fi
  to_ : List Fi
def job (s : St) (n : Nat) (fr : List Fi) : Jb := ⟨n, fr, (atL s (n + 1)).filter (meets (span fr))⟩
/-- What a job takes: all of level 0, or one of another level. -/
def JobOk (s : St) (j : Jb) : Prop := j = job s j.lev j.from_ ∧ j.from_ ≠ [] ∧ j.lev ≤ 2 ∧ ((j.lev = 0 ∧ j.from_ = atL s 0) ∨ (0 < j.lev ∧ ∃ o ∈ atL s j.lev, j.from_ = [o]))
def goneN (j : Jb) : List Nat := j.from_.map Fi.num ++ j.to_.map Fi.num
def mine (s : St) (j : Jb) : List Fi := s.files.filter fun f => decide (f.num ∈ goneN j)
def rest (s : St) (j : Jb) : List Fi := s.files.filter fun f => !decide (f.num ∈ goneN j)
def deep (s : St) (n : Nat) : List Fi := s.files.filter fun f => decide (n < f.lev)
def lastJ (s : St) (j : Jb) : Bool := !(deep s (j.lev + 1)).any (meets (span (mine s j)))
theorem mem_num {fs : List Fi} (h : fs.Pairwise fun a b => a.num ≠ b.num) {a b : Fi} (ha : a ∈ fs) (hb : b ∈ fs) (e : a.num = b.num) : a = b := by
  induction fs with
  | nil => cases ha
  | cons x fs ih =>
    obtain ⟨h1, h2⟩ := List.pairwise_cons.1 h
    rcases List.mem_cons.1 ha with rfl | ha'
    · rcases List.mem_cons.1 hb with rfl | hb'
      · rfl
      · exact absurd e (h1 b hb')
    · rcases List.mem_cons.1 hb with rfl | hb'
      · exact absurd e.symm (h1 a ha')
      · exact ih h2 ha' hb'
section
variable {i c : Nat} {s : St} {T : List (List En)} {W : List En} {j : Jb}
theorem from_mem (hj : JobOk s j) : ∀ f ∈ j.from_, f ∈ s.files ∧ f.lev = j.lev := by
  intro f hf
  obtain ⟨_, _, _, h⟩ := hj
  rcases h with ⟨h0, h⟩ | ⟨_, o, ho, h⟩
  · rw [h] at hf
    obtain ⟨a, b⟩ := List.mem_filter.1 hf
    exact ⟨a, by rw [h0]; simpa using b⟩
  · rw [h] at hf
    rw [List.mem_singleton.1 hf]
    obtain ⟨a, b⟩ := List.mem_filter.1 ho
    exact ⟨a, by simpa using b⟩
theorem to_mem (hj : JobOk s j) : ∀ f ∈ j.to_, f ∈ s.files ∧ f.lev = j.lev + 1 ∧ meets (span j.from_) f = true := by
  intro f hf
  rw [hj.1] at hf
  obtain ⟨a, b⟩ := List.mem_filter.1 hf
  obtain ⟨a, d⟩ := List.mem_filter.1 a
  exact ⟨a, by simpa using d, b⟩
/-- Whose number goes: of a file of these two levels. -/
theorem gone_iff (h : Inv i c s T W) (hj : JobOk s j) {f : Fi} (hf : f ∈ s.files) : f.num ∈ goneN j ↔ f ∈ j.from_ ∨ f ∈ j.to_ := by
  unfold goneN
  rw [List.mem_append, List.mem_map, List.mem_map]
  constructor
  · rintro (⟨g, hg, e⟩ | ⟨g, hg, e⟩)
    · exact .inl (mem_num h.nums (from_mem hj g hg).1 hf e ▸ hg)
    · exact .inr (mem_num h.nums (to_mem hj g hg).1 hf e ▸ hg)
  · rintro (hg | hg)
    · exact .inl ⟨f, hg, rfl⟩
    · exact .inr ⟨f, hg, rfl⟩
theorem mem_mine (h : Inv i c s T W) (hj : JobOk s j) {f : Fi} : f ∈ mine s j ↔ f ∈ j.from_ ∨ f ∈ j.to_ := by
  unfold mine
  rw [List.mem_filter]
  constructor
  · rintro ⟨a, b⟩
    exact (gone_iff h hj a).1 (by simpa using b)
  · intro hf
    have hm : f ∈ s.files := by
      rcases hf with hf | hf
      · exact (from_mem hj f hf).1
      · exact (to_mem hj f hf).1
    exact ⟨hm, by simpa using (gone_iff h hj hm).2 hf⟩
theorem mem_rest (h : Inv i c s T W) (hj : JobOk s j) {f : Fi} : f ∈ rest s j ↔ f ∈ s.files ∧ f ∉ j.from_ ∧ f ∉ j.to_ := by
  unfold rest
  rw [List.mem_filter]
  constructor
  · rintro ⟨a, b⟩
    have b : ¬ f.num ∈ goneN j := by simpa using b
    rw [gone_iff h hj a] at b
    exact ⟨a, fun q => b (.inl q), fun q => b (.inr q)⟩
  · rintro ⟨a, b, d⟩
    refine ⟨a, ?_⟩
    have : ¬ f.num ∈ goneN j := by
      rw [gone_iff h hj a]
      exact fun q => q.elim b d
    simpa using this
theorem mine_ne (h : Inv i c s T W) (hj : JobOk s j) : mine s j ≠ [] := by
  obtain ⟨f, hf⟩ := List.exists_mem_of_ne_nil _ hj.2.1
  exact List.ne_nil_of_mem ((mem_mine h hj).2 (.inl hf))
theorem disj (h : Inv i c s T W) {a b : Fi} (ha : a ∈ s.files) (hb : b ∈ s.files) (hne : a.num ≠ b.num) (hl : a.lev = b.lev) (h0 : 0 < a.lev) : B a.last b.first = true ∨ B b.last a.first = true := by
  have key : ∀ {fs : List Fi}, fs.Pairwise S → a ∈ fs → b ∈ fs → B a.last b.first = true ∨ B b.last a.first = true := by
    intro fs
    induction fs with
    | nil => intro _ ha; cases ha
    | cons x fs ih =>
      intro hs ha hb
      obtain ⟨h1, h2⟩ := List.pairwise_cons.1 hs
      rcases List.mem_cons.1 ha with rfl | ha'
      · rcases List.mem_cons.1 hb with rfl | hb'
        · exact absurd rfl hne
        · rcases h1 b hb' with q | ⟨_, q | q⟩
          · omega
          · omega
          · exact .inl q.2
      · rcases List.mem_cons.1 hb with rfl | hb'
        · rcases h1 a ha' with q | ⟨_, q | q⟩
          · omega
          · omega
          · exact .inr q.2
        · exact ih h2 ha' hb'
  exact key h.sorted ha hb
/-- A file of the next level that stays meets nothing of those that go. -/
theorem rest_far (h : Inv i c s T W) (hj : JobOk s j) {r : Fi} (hr : r ∈ rest s j) (hl : r.lev = j.lev + 1) : B r.last (span (mine s j)).1 = true ∨ B (span (mine s j)).2 r.first = true := by
  obtain ⟨hrf, hr1, hr2⟩ := (mem_rest h hj).1 hr
  have hnm : meets (span j.from_) r = false := by
    cases hm : meets (span j.from_) r with
    | false => rfl
    | true =>
      refine absurd ?_ hr2
      rw [hj.1]
      exact List.mem_filter.2 ⟨List.mem_filter.2 ⟨hrf, by simpa using hl⟩, hm⟩
  obtain ⟨p1, p2, p3⟩ := span_spec hj.2.1
  obtain ⟨q1, ⟨a, ha, ea⟩, ⟨b, hb, eb⟩⟩ := span_spec (mine_ne h hj)
  have hrl := (h.files r hrf).2.2.le
  have hto : ∀ t ∈ j.to_, B t.last r.first = true ∨ B r.last t.first = true := fun t ht => by
    obtain ⟨t1, t2, _⟩ := to_mem hj t ht
    exact disj h t1 hrf (fun e => hr2 (mem_num h.nums t1 hrf e ▸ ht)) (by omega) (by omega)
  rcases meets_no hnm with hm | hm
  · left
    rw [ea]
    rcases (mem_mine h hj).1 ha with h1 | h1
    · exact B_lt_le hm (p1 a h1).1
    · have hmt := meets_yes (to_mem hj a h1).2.2
      rcases hto a h1 with h2 | h2
      · have hal := (h.files a (to_mem hj a h1).1).2.2.le
        have h4 := B_lt_le (B_lt_le h2 hrl) (B_as hm)
        rw [hmt.1] at h4
        cases h4
      · exact h2
  · right
    rw [eb]
    rcases (mem_mine h hj).1 hb with h1 | h1
    · exact B_le_lt (p1 b h1).2 hm
    · have hmt := meets_yes (to_mem hj b h1).2.2
      rcases hto b h1 with h2 | h2
      · exact h2
      · have h4 := B_lt_le (B_lt_le hm hrl) (B_as h2)
        rw [hmt.2] at h4
        cases h4
end
end L
end Go.Proofs.Ytnfabofkfnmplaa
