/- A journal's segments in plain Lean: how they lie on a disk, what a text more makes of them. -/
import Derived.Test.YtknkbioalohofaaPureJrn
import Derived.Test.YtknkbioalohofaaPureCuts
namespace Go.Proofs.Ytknkbioalohofaa
namespace Jr
/-- A segment: its number, its bytes, how many are sure. -/
structure Sg where
  k : Nat
  b : List UInt8
  s : Nat
def fl (x : Sg) : D.Fl := ⟨name x.k, x.b, x.s⟩
def files (l : List Sg) : List D.Fl := l.map fl
/-- Rising numbers, below 10^9. -/
def Up (l : List Sg) : Prop := l.Pairwise (fun x y => x.k < y.k) ∧ ∀ x ∈ l, x.k < 1000000000
def texts (l : List Sg) : List (List UInt8) := (l.map fun x => (C.all x.b).1).flatten
def next : List Sg → Nat
  | [] => 0
  | [x] => x.k + 1
  | _ :: y :: r => next (y :: r)
theorem files_names (l : List Sg) : (files l).map D.Fl.name = l.map fun x => name x.k := by unfold files; rw [List.map_map]; rfl
theorem files_length (l : List Sg) : (files l).length = l.length := List.length_map _
theorem texts_nil : texts [] = [] := rfl
theorem texts_cons (x : Sg) (l : List Sg) : texts (x :: l) = (C.all x.b).1 ++ texts l := rfl
theorem texts_app (l m : List Sg) : texts (l ++ m) = texts l ++ texts m := by unfold texts; simp
theorem texts_one (x : Sg) : texts [x] = (C.all x.b).1 := by simp [texts]
theorem next_snoc (l : List Sg) (x : Sg) : next (l ++ [x]) = x.k + 1 := by
  induction l with
  | nil => rfl
  | cons y l ih =>
    cases l with
    | nil => rfl
    | cons z l => exact ih
theorem Up.lt {l : List Sg} (h : Up l) {x : Sg} (hx : x ∈ l) : x.k < 10000000000 := Nat.lt_trans (h.2 x hx) (by decide)
theorem Up.nil : Up [] := ⟨List.Pairwise.nil, by simp⟩
theorem Up.snoc {l : List Sg} (h : Up l) {x : Sg} (hx : x.k < 1000000000) (hn : ∀ y ∈ l, y.k < x.k) : Up (l ++ [x]) := by
  refine ⟨?_, ?_⟩
  · rw [List.pairwise_append]
    exact ⟨h.1, List.pairwise_singleton _ _, by simpa using hn⟩
  · intro y hy
    rcases List.mem_append.1 hy with e | e
    · exact h.2 y e
    · rw [List.mem_singleton.1 e]; exact hx
/-- What is found under a number's name. -/
theorem find_mem {l : List Sg} (h : Up l) {x : Sg} (hx : x ∈ l) : D.fnd D.Fl.name (name x.k) (files l) = some (fl x) := by
  induction l with
  | nil => cases hx
  | cons y l ih =>
    show D.fnd _ _ (fl y :: files l) = _
    rw [D.fnd_cons]
    rcases List.mem_cons.1 hx with e | e
    · subst e
      rw [show ((fl x).name == name x.k) = true from beq_self_eq_true _]; rfl
    · have hlt := (List.pairwise_cons.1 h.1).1 x e
      have hne : ((fl y).name == name x.k) = false := by
        rw [beq_eq_false_iff_ne]
        intro e2
        have := name_inj (h.lt (List.mem_cons_self ..)) (h.lt hx) e2
        omega
      rw [hne]
      exact ih ⟨(List.pairwise_cons.1 h.1).2, fun z hz => h.2 z (List.mem_cons_of_mem _ hz)⟩ e
theorem find_none {l : List Sg} (h : Up l) {k : Nat} (hk : k < 1000000000) (hn : ∀ y ∈ l, y.k ≠ k) : D.fnd D.Fl.name (name k) (files l) = none := by
  unfold D.fnd
  rw [List.find?_eq_none]
  intro f hf
  obtain ⟨y, hy, rfl⟩ := List.mem_map.1 hf
  intro e
  have e2 : name y.k = name k := by simpa [fl] using e
  exact hn y hy (name_inj (h.lt hy) (Nat.lt_trans hk (by decide)) e2)
theorem ins_last {l : List Sg} (h : Up l) {x : Sg} (hx : x.k < 1000000000) (hn : ∀ y ∈ l, y.k < x.k) : D.ins D.Fl.name (fl x) (files l) = files (l ++ [x]) := by
  induction l with
  | nil => rfl
  | cons y l ih =>
    show D.ins _ _ (fl y :: files l) = fl y :: files (l ++ [x])
    unfold D.ins
    have hb : bytesBefore (fl x).name (fl y).name = false := by
      show bytesBefore (name x.k) (name y.k) = false
      rw [before_name _ _ (Nat.lt_trans hx (by decide)) (h.lt (List.mem_cons_self ..)), decide_eq_false_iff_not]
      have := hn y (List.mem_cons_self ..)
      omega
    rw [if_neg (by rw [hb]; decide), ih ⟨(List.pairwise_cons.1 h.1).2, fun z hz => h.2 z (List.mem_cons_of_mem _ hz)⟩ fun z hz => hn z (List.mem_cons_of_mem _ hz)]
theorem upd_files {l : List Sg} (h : Up l) {k : Nat} (hk : k < 1000000000) (g : D.Fl → D.Fl) (g' : Sg → Sg) (hg : ∀ y, g (fl y) = fl (g' y)) : D.upd D.Fl.name (name k) g (files l) = files (l.map fun y => if y.k = k then g' y else y) := by
  unfold D.upd files
  rw [List.map_map, List.map_map]
  apply List.map_congr_left
  intro y hy
  show (if (name y.k == name k) = true then g (fl y) else fl y) = fl (if y.k = k then g' y else y)
  by_cases e : y.k = k
  · rw [if_pos e, if_pos (by rw [e]; exact beq_self_eq_true _), hg]
  · rw [if_neg e, if_neg]
    intro e2
    exact e (name_inj (h.lt hy) (Nat.lt_trans hk (by decide)) (by simpa using e2))
end Jr
end Go.Proofs.Ytknkbioalohofaa
