/- Plain laws: a state of the law's loop is good; what Apply makes of it keeps what the loop keeps. -/
import Derived.Test.YtnfabofkfnmplaaLvL
namespace Go.Proofs.Ytnfabofkfnmplaa
namespace L
section
variable {i c : Nat} {s : St} {T : List (List En)} {W : List En} {j : Jb}
theorem keyB_of {k : List UInt8} (h : KeyOk k) : keyB k = true := by
  obtain ⟨h1, h2⟩ := h
  have h3 : k ≠ [] := List.length_pos_iff.1 h1
  unfold keyB
  rw [decide_eq_true h3, decide_eq_true h2]
  rfl
theorem le_total {T : List (List En)} : ∀ {fs : List Fi} {f : Fi}, f ∈ fs → (tbl T f).length ≤ total (fs.map (tbl T))
  | [], _, h => by cases h
  | g :: fs, f, h => by
    rw [List.map_cons, total_cons]
    rcases List.mem_cons.1 h with rfl | h
    · omega
    · have := le_total (T := T) h; omega
theorem Inv.good (h : Inv i c s T W) (hi : i ≤ 50) (hc : c ≤ 1000) : Good s := by
  refine ⟨by have := h.nextB; omega, by rw [h.log]; omega, by have := h.few; omega, fun f hf => ?_, h.nums, h.sorted⟩
  obtain ⟨h1, h2, h3⟩ := h.files f hf
  have h4 := le_total (T := T) hf
  have h5 := h.tot
  exact ⟨h1, h2, by rw [h3.size]; omega, keyB_of h3.fk.1, keyB_of h3.fk.2, h3.le⟩
/-- Nothing comes. -/
theorem applied_none (h : Inv i c s T W) : applied s (goneN j) [] s.log = ⟨s.next, 0, rest s j⟩ := by
  unfold applied
  have e : s.files.filter (fun f => !decide (f.num ∈ goneN j)) = rest s j := rfl
  rw [List.append_nil, e, isort_id (rest_fine h), h.log]
  rfl
theorem job_none (h : Inv i c s T W) (hj : JobOk s j) (h0 : made s T j = []) : Inv i (c + 1) (applied s (goneN j) [] s.log) T W := by
  rw [applied_none h]
  exact h.job hj (.inl ⟨h0, rfl, rfl⟩) (rest_fine h).1
/-- A table comes. -/
theorem job_some (h : Inv i c s T W) (hj : JobOk s j) (h0 : made s T j ≠ []) : Inv i (c + 1) (applied s (goneN j) [tab s.next (j.lev + 1) (made s T j)] s.log) (T ++ [made s T j]) W := by
  obtain ⟨a, b, h1, h2, h3⟩ := isort_ins (rest_fine h (j := j)) (tab s.next (j.lev + 1) (made s T j)) (made_ok h hj h0).le (tab_parts h hj h0)
  have e : applied s (goneN j) [tab s.next (j.lev + 1) (made s T j)] s.log = ⟨s.next + 1, 0, a ++ tab s.next (j.lev + 1) (made s T j) :: b⟩ := by
    unfold applied
    have e : s.files.filter (fun f => !decide (f.num ∈ goneN j)) = rest s j := rfl
    rw [e, h2, h.log]
    have : nxt s.next [tab s.next (j.lev + 1) (made s T j)] = s.next + 1 := by
      show max s.next (s.next + 1) = _
      omega
    rw [this]
  rw [e]
  exact h.job hj (.inr ⟨h0, a, b, h1, rfl, rfl⟩) h3
theorem gone_any (hj : JobOk s j) : ∀ n ∈ goneN j, s.files.any (fun f => decide (f.num = n)) = true := by
  intro n hn
  rw [List.any_eq_true]
  unfold goneN at hn
  rcases List.mem_append.1 hn with h1 | h1
  · obtain ⟨f, hf, rfl⟩ := List.mem_map.1 h1
    exact ⟨f, (from_mem hj f hf).1, decide_eq_true rfl⟩
  · obtain ⟨f, hf, rfl⟩ := List.mem_map.1 h1
    exact ⟨f, (to_mem hj f hf).1, decide_eq_true rfl⟩
/-- A table of level 0 more. -/
theorem add_applied (h : Inv i c s T W) {t : List En} (h0 : t ≠ []) (hu : Up t) (hk : ∀ x ∈ t, KeyOk x.key) (hl : t.length ≤ 20) : Inv (i + 1) (c + 1) (applied s [] [tab s.next 0 t] 0) (T ++ [t]) (puts t W) := by
  have hS : ∀ y ∈ s.files, S (tab s.next 0 t) y := fun y hy => by
    have h1 := (h.files y hy).1
    by_cases hl : y.lev = 0
    · exact .inr ⟨hl.symm, .inl ⟨rfl, h1⟩⟩
    · exact .inl (by show 0 < y.lev; omega)
  have hT := tab_ok (n := s.next) (lev := 0) h0 hu hk
  obtain ⟨a, b, h1, h2, h3⟩ := isort_ins h.fine (tab s.next 0 t) hT.le (fun y hy => .inr (hS y hy))
  have ha : a = [] := by
    cases a with
    | nil => rfl
    | cons y a =>
      exfalso
      have h4 := (List.pairwise_append.1 h3).2.2 y List.mem_cons_self (tab s.next 0 t) List.mem_cons_self
      have h5 := hS y (by rw [h1]; exact List.mem_append_left _ List.mem_cons_self)
      have h6 : S (tab s.next 0 t) (tab s.next 0 t) := S_trans h5 h4 ((h.files y (by rw [h1]; exact List.mem_append_left _ List.mem_cons_self)).2.2.le)
      rcases h6 with h6 | ⟨_, h6 | h6⟩
      · exact Nat.lt_irrefl _ h6
      · exact Nat.lt_irrefl _ h6.2
      · exact Nat.lt_irrefl _ h6.1
  subst ha
  have e : applied s [] [tab s.next 0 t] 0 = ⟨s.next + 1, 0, tab s.next 0 t :: s.files⟩ := by
    unfold applied
    have e : s.files.filter (fun f => !decide (f.num ∈ ([] : List Nat))) = s.files := by
      rw [List.filter_eq_self]
      intro f _
      simp
    have h1 : s.files = b := h1
    have h2 : isort (s.files ++ [tab s.next 0 t]) = tab s.next 0 t :: b := h2
    rw [e, h2, ← h1]
    have : nxt s.next [tab s.next 0 t] = s.next + 1 := by
      show max s.next (s.next + 1) = _
      omega
    rw [this]
  rw [e]
  exact h.add h0 hu hk hl
end
end L
end Go.Proofs.Ytnfabofkfnmplaa
