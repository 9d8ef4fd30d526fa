/- Plain laws: the sort by insertion, what a job leaves, what stands at the end. No program in sight. -/
import Derived.Test.YtnfabofkfnmplaaPureLvC
namespace Go.Proofs.Ytnfabofkfnmplaa
namespace L
def cmpN (a b : Nat) : Int := if a < b then -1 else if b < a then 1 else 0
def cmpB (a b : List UInt8) : Int := if B a b = true then -1 else if B b a = true then 1 else 0
def ord (a b : Fi) : Int := if a.lev ≠ b.lev ∨ a.lev = 0 then (if cmpN a.lev b.lev ≠ 0 then cmpN a.lev b.lev else cmpN b.num a.num) else cmpB a.first b.first
theorem cmpN_lt {a b : Nat} (h : a < b) : cmpN a b = -1 := by unfold cmpN; rw [if_pos h]
theorem cmpN_eq (a : Nat) : cmpN a a = 0 := by unfold cmpN; rw [if_neg (Nat.lt_irrefl _), if_neg (Nat.lt_irrefl _)]
theorem cmpN_gt {a b : Nat} (h : b < a) : cmpN a b = 1 := by unfold cmpN; rw [if_neg (by omega), if_pos h]
theorem ord_neg {a b : Fi} (h : S a b) (ha : B a.last a.first = false) : ord a b = -1 := by
  unfold ord
  rcases h with h | ⟨h, h2 | h2⟩
  · rw [if_pos (.inl (by omega)), cmpN_lt h]; rfl
  · rw [if_pos (.inr h2.1), h, cmpN_eq, cmpN_lt h2.2]; rfl
  · rw [if_neg (by intro q; rcases q with q | q <;> omega)]
    unfold cmpB
    rw [if_pos (B_le_lt ha h2.2)]
theorem ord_pos {a b : Fi} (h : S a b) (ha : B a.last a.first = false) : ord b a = 1 := by
  unfold ord
  rcases h with h | ⟨h, h2 | h2⟩
  · rw [if_pos (.inl (by omega)), cmpN_gt h]; rfl
  · rw [if_pos (.inr (by omega)), h, cmpN_eq, cmpN_gt h2.2]; rfl
  · rw [if_neg (by intro q; rcases q with q | q <;> omega)]
    unfold cmpB
    have := B_le_lt ha h2.2
    rw [if_neg (by rw [B_as this]; simp), if_pos this]
theorem S_trans {a b c : Fi} (h : S a b) (k : S b c) (hb : B b.last b.first = false) : S a c := by
  rcases h with h | ⟨h, h2⟩
  · rcases k with k | ⟨k, _⟩
    · exact .inl (by omega)
    · exact .inl (by omega)
  · rcases k with k | ⟨k, k2⟩
    · exact .inl (by omega)
    · refine .inr ⟨by omega, ?_⟩
      rcases h2 with h2 | h2
      · rcases k2 with k2 | k2
        · exact .inl ⟨h2.1, by omega⟩
        · omega
      · rcases k2 with k2 | k2
        · omega
        · exact .inr ⟨h2.1, B_tr h2.2 (B_le_lt hb k2.2)⟩
/-- An element goes to the left as long as it is before its neighbour. -/
def bub : Nat → List Fi → List Fi
  | 0, l => l
  | j + 1, l => match l[j]?, l[j + 1]? with
    | some a, some b => if ord b a < 0 then bub j ((l.set (j + 1) a).set j b) else l
    | _, _ => l
def isort (l : List Fi) : List Fi := (List.range l.length).foldl (fun l i => bub i l) l
theorem bub_stay {l : List Fi} {j : Nat} {a b : Fi} (ha : l[j]? = some a) (hb : l[j + 1]? = some b) (h : ¬ ord b a < 0) : bub (j + 1) l = l := by
  unfold bub
  rw [ha, hb]
  simp only
  rw [if_neg h]
theorem bub_ins (x : Fi) : ∀ (n : Nat) (p q : List Fi), p.length = n → ∃ a b, p = a ++ b ∧ bub n (p ++ x :: q) = a ++ x :: (b ++ q) ∧ (∀ y ∈ b, ord x y < 0) ∧ (a = [] ∨ ∃ z, a.getLast? = some z ∧ ¬ ord x z < 0)
  | 0, p, q, hp => by
    obtain rfl := List.eq_nil_of_length_eq_zero hp
    exact ⟨[], [], rfl, rfl, by simp, .inl rfl⟩
  | n + 1, p, q, hp => by
    obtain ⟨p', y, rfl⟩ : ∃ p' y, p = p' ++ [y] := ⟨p.dropLast, p.getLast (by intro h; rw [h] at hp; cases hp), (List.dropLast_concat_getLast _).symm⟩
    have hp' : p'.length = n := by rw [List.length_append, List.length_singleton] at hp; omega
    have e : (p' ++ [y]) ++ x :: q = p' ++ y :: x :: q := by simp
    have h1 : (p' ++ y :: x :: q)[n]? = some y := by rw [List.getElem?_append_right (by omega), hp', Nat.sub_self]; rfl
    have h2 : (p' ++ y :: x :: q)[n + 1]? = some x := by rw [List.getElem?_append_right (by omega), hp', show n + 1 - n = 1 by omega]; rfl
    rw [e]
    by_cases ho : ord x y < 0
    · obtain ⟨a, b, rfl, hab, hb, ha⟩ := bub_ins x n p' (y :: q) hp'
      refine ⟨a, b ++ [y], by simp, ?_, fun z hz => ?_, ha⟩
      · unfold bub
        rw [h1, h2]
        simp only
        rw [if_pos ho]
        have e2 : ((a ++ b ++ y :: x :: q).set (n + 1) y).set n x = a ++ b ++ x :: y :: q := by
          rw [List.set_append_right _ _ (by omega), List.set_append_right _ _ (by omega), hp', show n + 1 - n = 1 by omega, Nat.sub_self]
          rfl
        rw [e2, hab]
        simp
      · rcases List.mem_append.1 hz with h3 | h3
        · exact hb z h3
        · rw [List.mem_singleton.1 h3]; exact ho
    · refine ⟨p' ++ [y], [], by simp, ?_, by simp, .inr ⟨y, by simp, ho⟩⟩
      rw [bub_stay h1 h2 ho]
      simp
def Fine (l : List Fi) : Prop := l.Pairwise S ∧ ∀ f ∈ l, B f.last f.first = false
theorem bub_id {l : List Fi} {r : List Fi} (h : Fine r) : ∀ j, j < r.length → (∀ k, k < r.length → l[k]? = r[k]?) → bub j l = l
  | 0, _, _ => rfl
  | j + 1, hj, hl => by
    have ha : l[j]? = some r[j] := by rw [hl j (by omega), List.getElem?_eq_getElem (by omega)]
    have hb : l[j + 1]? = some r[j + 1] := by rw [hl (j + 1) hj, List.getElem?_eq_getElem hj]
    refine bub_stay ha hb ?_
    have hs := (List.pairwise_iff_getElem.1 h.1) j (j + 1) (by omega) hj (by omega)
    rw [ord_pos hs (h.2 _ (List.getElem_mem _))]
    omega
theorem fold_id {l r : List Fi} (h : Fine r) (hl : ∀ k, k < r.length → l[k]? = r[k]?) : ∀ n, n ≤ r.length → (List.range n).foldl (fun l i => bub i l) l = l
  | 0, _ => rfl
  | n + 1, hn => by
    rw [List.range_succ, List.foldl_append, fold_id h hl n (by omega)]
    exact bub_id h n (by omega) hl
theorem isort_id {r : List Fi} (h : Fine r) : isort r = r := fold_id h (fun _ _ => rfl) _ (Nat.le_refl _)
theorem isort_ins {r : List Fi} (h : Fine r) (g : Fi) (hg : B g.last g.first = false) (ht : ∀ y ∈ r, S y g ∨ S g y) : ∃ a b, r = a ++ b ∧ isort (r ++ [g]) = a ++ g :: b ∧ (a ++ g :: b).Pairwise S := by
  obtain ⟨a, b, hab, he, hb, ha⟩ := bub_ins g r.length r [] rfl
  have h1 : isort (r ++ [g]) = a ++ g :: b := by
    unfold isort
    rw [List.length_append, List.length_singleton, List.range_succ, List.foldl_append, fold_id h (fun k hk => List.getElem?_append_left hk) _ (Nat.le_refl _)]
    show bub r.length (r ++ [g]) = _
    rw [he, List.append_nil]
  have hS : ∀ y ∈ b, S g y := fun y hy => by
    rcases ht y (by rw [hab]; exact List.mem_append_right _ hy) with h2 | h2
    · have := hb y hy
      rw [ord_pos h2 (h.2 y (by rw [hab]; exact List.mem_append_right _ hy))] at this
      omega
    · exact h2
  have hr := h.1
  rw [hab] at hr
  obtain ⟨hra, hrb, hrab⟩ := List.pairwise_append.1 hr
  have hSa : ∀ y ∈ a, S y g := fun y hy => by
    rcases ha with rfl | ⟨z, hz, hzo⟩
    · cases hy
    · have hzm : z ∈ a := List.mem_of_getLast? hz
      have hzS : S z g := by
        rcases ht z (by rw [hab]; exact List.mem_append_left _ hzm) with h2 | h2
        · exact h2
        · exact absurd (by rw [ord_neg h2 hg]; omega) hzo
      obtain ⟨a', rfl⟩ : ∃ a', a = a' ++ [z] := by
        obtain ⟨a', ha'⟩ := List.getLast?_eq_some_iff.1 hz
        exact ⟨a', ha'⟩
      rcases List.mem_append.1 hy with h3 | h3
      · exact S_trans ((List.pairwise_append.1 hra).2.2 y h3 z (by simp)) hzS (h.2 z (by rw [hab]; exact List.mem_append_left _ hzm))
      · rw [List.mem_singleton.1 h3]; exact hzS
  refine ⟨a, b, hab, h1, List.pairwise_append.2 ⟨hra, List.pairwise_cons.2 ⟨hS, hrb⟩, fun x hx y hy => ?_⟩⟩
  rcases List.mem_cons.1 hy with rfl | hy
  · exact hSa x hx
  · exact hrab x hx y hy
section
variable {i c : Nat} {s : St} {T : List (List En)} {W : List En} {j : Jb}
theorem Inv.fine (h : Inv i c s T W) : Fine s.files := ⟨h.sorted, fun f hf => (h.files f hf).2.2.le⟩
theorem rest_fine (h : Inv i c s T W) : Fine (rest s j) := ⟨h.sorted.filter _, fun f hf => (h.files f (List.mem_filter.1 hf).1).2.2.le⟩
theorem made_ok (h : Inv i c s T W) (hj : JobOk s j) (h0 : made s T j ≠ []) : FileOk (tab s.next (j.lev + 1) (made s T j)) (made s T j) := tab_ok h0 (made_up h) fun x hx => (made_in h hj x hx).2
theorem tab_in (h : Inv i c s T W) (hj : JobOk s j) (h0 : made s T j ≠ []) : B (tab s.next (j.lev + 1) (made s T j)).first (span (mine s j)).1 = false ∧ B (span (mine s j)).2 (tab s.next (j.lev + 1) (made s T j)).last = false := by
  obtain ⟨x, y, h1, h2, h3, h4⟩ := (made_ok h hj h0).some_
  rw [h3, h4]
  exact ⟨(made_in h hj x (List.mem_of_mem_head? h1)).1.1, (made_in h hj y (List.mem_of_getLast? h2)).1.2⟩
theorem tab_parts (h : Inv i c s T W) (hj : JobOk s j) (h0 : made s T j ≠ []) : ∀ y ∈ rest s j, S y (tab s.next (j.lev + 1) (made s T j)) ∨ S (tab s.next (j.lev + 1) (made s T j)) y := by
  intro y hy
  obtain ⟨t1, t2⟩ := tab_in h hj h0
  rcases Nat.lt_trichotomy y.lev (j.lev + 1) with h1 | h1 | h1
  · exact .inl (.inl h1)
  · rcases rest_far h hj hy h1 with h2 | h2
    · exact .inl (.inr ⟨h1, .inr ⟨by omega, B_lt_le h2 t1⟩⟩)
    · exact .inr (.inr ⟨h1.symm, .inr ⟨Nat.succ_pos _, B_le_lt t2 h2⟩⟩)
  · exact .inr (.inl h1)
theorem filter_two (p : Fi → Bool) (l : List Fi) : (l.filter p).length + (l.filter fun f => !p f).length = l.length := by
  induction l with
  | nil => rfl
  | cons f l ih =>
    rw [List.filter_cons, List.filter_cons]
    cases p f with
    | true => simp; omega
    | false => simp; omega
theorem total_two (T : List (List En)) (p : Fi → Bool) (l : List Fi) : total ((l.filter p).map (tbl T)) + total ((l.filter fun f => !p f).map (tbl T)) = total (l.map (tbl T)) := by
  induction l with
  | nil => rfl
  | cons f l ih =>
    rw [List.filter_cons, List.filter_cons, List.map_cons, total_cons]
    cases p f with
    | true => simp only [if_true, Bool.not_true, List.map_cons, total_cons]; rw [if_neg (by simp)]; omega
    | false => simp only [Bool.not_false, if_true, List.map_cons, total_cons]; rw [if_neg (by simp)]; omega
/-- What a job leaves. -/
theorem Inv.job (h : Inv i c s T W) (hj : JobOk s j) {s' : St} {T' : List (List En)} (hb : Behind' s T j s' T') (hs' : s'.files.Pairwise S) : Inv i (c + 1) s' T' W := by
  have hlook := fun k => (job_look h hj hb hs' k).trans (h.look k)
  have hn := h.nlt
  have hrn : ∀ f ∈ rest s j, f.num < T.length := fun f hf => hn f (List.mem_filter.1 hf).1
  have hne := mine_ne h hj
  have hl2 := filter_two (fun f => decide (f.num ∈ goneN j)) s.files
  have ht2 := total_two T (fun f => decide (f.num ∈ goneN j)) s.files
  have hml : 0 < (mine s j).length := List.length_pos_iff.2 hne
  have hfew := h.few
  have htot := h.tot
  have hmd := made_len h (j := j)
  rcases hb with ⟨h0, rfl, rfl⟩ | ⟨h0, a, b, hab, rfl, rfl⟩
  · refine ⟨h.next, Nat.le_succ_of_le h.nextB, rfl, fun f hf => h.files f (List.mem_filter.1 hf).1, hs', h.nums.filter _, h.upW, hlook, ?_, ?_⟩
    · show total ((rest s j).map (tbl _)) ≤ _
      unfold rest
      omega
    · show (rest s j).length ≤ i
      unfold rest
      omega
  · have hgt : tbl (T ++ [made s T j]) (tab s.next (j.lev + 1) (made s T j)) = made s T j := tbl_new _ _ h.next.symm
    have hmem : ∀ f ∈ a ++ tab s.next (j.lev + 1) (made s T j) :: b, f = tab s.next (j.lev + 1) (made s T j) ∨ f ∈ rest s j := fun f hf => by
      rw [hab]
      rcases List.mem_append.1 hf with h3 | h3
      · exact .inr (List.mem_append_left _ h3)
      · rcases List.mem_cons.1 h3 with h3 | h3
        · exact .inl h3
        · exact .inr (List.mem_append_right _ h3)
    have hperm : (a ++ tab s.next (j.lev + 1) (made s T j) :: b).Perm (tab s.next (j.lev + 1) (made s T j) :: rest s j) := by
      rw [hab]; exact List.perm_middle
    refine ⟨by rw [List.length_append, h.next]; rfl, by have := h.nextB; show s.next + 1 ≤ c + 1; omega, rfl, fun f hf => ?_, hs', ?_, h.upW, hlook, ?_, ?_⟩
    · rcases hmem f hf with rfl | hf
      · exact ⟨Nat.lt_succ_self _, by have := hj.2.2.1; show j.lev + 1 < 4; omega, by rw [hgt]; exact made_ok h hj h0⟩
      · obtain ⟨q1, q2, q3⟩ := h.files f (List.mem_filter.1 hf).1
        exact ⟨Nat.lt_succ_of_lt q1, q2, by rw [tbl_app T _ (hrn f hf)]; exact q3⟩
    · refine (List.Perm.pairwise_iff (fun {x y} (hxy : x.num ≠ y.num) => hxy.symm) hperm).2 (List.pairwise_cons.2 ⟨fun f hf e => ?_, h.nums.filter _⟩)
      have h1 := (h.files f (List.mem_filter.1 hf).1).1
      have e : s.next = f.num := e
      omega
    · show total ((a ++ tab s.next (j.lev + 1) (made s T j) :: b).map _) ≤ _
      have e1 : total ((a ++ tab s.next (j.lev + 1) (made s T j) :: b).map (tbl (T ++ [made s T j]))) = (made s T j).length + total ((rest s j).map (tbl T)) := by
        rw [List.map_append, List.map_cons, total_append, total_cons, hgt, ← map_tbl_app T (made s T j) hrn, hab, List.map_append, total_append]
        omega
      rw [e1]
      unfold rest at *
      unfold mine at *
      omega
    · show (a ++ tab s.next (j.lev + 1) (made s T j) :: b).length ≤ i
      rw [hperm.length_eq, List.length_cons]
      unfold rest
      unfold mine at hml
      omega
/-- What stands at the end. -/
theorem Inv.end_ (h : Inv i c s T W) : merge (s.files.map (tbl T)) true = drop W := by
  have hu : ∀ l ∈ s.files.map (tbl T), Up l := fun l hl => by
    obtain ⟨f, hf, rfl⟩ := List.mem_map.1 hl
    exact (h.files f hf).2.2.up
  refine up_ext (merge_up _ _ hu) (drop_up h.upW) fun k => ?_
  rw [merge_get _ _ hu, drop_get k h.upW]
  exact h.look k
/-- The numbers that go are told once each. -/
theorem gone_nodup (h : Inv i c s T W) (hj : JobOk s j) : (goneN j).Nodup := by
  have hfn : (j.from_.map Fi.num).Nodup := by
    rcases hj.2.2.2 with ⟨_, h1⟩ | ⟨_, o, _, h1⟩
    · rw [h1]
      exact List.pairwise_map.2 (h.nums.filter _)
    · rw [h1]; simp
  have htn : (j.to_.map Fi.num).Nodup := by
    rw [hj.1]
    exact List.pairwise_map.2 ((h.nums.filter _).filter _)
  unfold goneN
  refine List.nodup_append.2 ⟨hfn, htn, fun x hx y hy e => ?_⟩
  obtain ⟨f, hf, rfl⟩ := List.mem_map.1 hx
  obtain ⟨g, hg, rfl⟩ := List.mem_map.1 hy
  have h1 := from_mem hj f hf
  have h2 := to_mem hj g hg
  have := mem_num h.nums h1.1 h2.1 e
  subst this
  omega
end
end L
end Go.Proofs.Ytnfabofkfnmplaa
