/- Plain laws: a table more, a job done: the newest entry of each key stays. No program in sight. -/
import Derived.Test.YtnfabofkfnmplaaPureLvB
namespace Go.Proofs.Ytnfabofkfnmplaa
namespace L
theorem live_or (a b : Option En) : live (a.or b) = match a with | some e => live (some e) | none => live b := by cases a <;> rfl
theorem live_live (a : Option En) : live (live a) = live a := by
  cases a with
  | none => rfl
  | some e =>
    cases h : e.gone with
    | false => simp [live, h]
    | true => simp [live, h]
/-- A table's file. -/
def tab (n lev : Nat) (t : List En) : Fi := ⟨n, lev, 8 * t.length, (t.head?.map En.key).getD [], (t.getLast?.map En.key).getD []⟩
theorem tab_ok {n lev : Nat} {t : List En} (h0 : t ≠ []) (hu : Up t) (hk : ∀ x ∈ t, KeyOk x.key) : FileOk (tab n lev t) t := by
  refine ⟨?_, hu, rfl, hk⟩
  cases t with
  | nil => exact absurd rfl h0
  | cons x t =>
    obtain ⟨y, hy⟩ : ∃ y, (x :: t).getLast? = some y := ⟨_, List.getLast?_eq_some_getLast (by simp)⟩
    exact ⟨x, y, rfl, hy, rfl, by unfold tab; rw [hy]; rfl⟩
theorem total_cons (l : List En) (r : List (List En)) : total (l :: r) = l.length + total r := by simp [total]
theorem total_append (a b : List (List En)) : total (a ++ b) = total a + total b := by simp [total]
section
variable {i c : Nat} {s : St} {T : List (List En)} {W : List En} {j : Jb}
theorem Inv.nlt (h : Inv i c s T W) : ∀ f ∈ s.files, f.num < T.length := fun f hf => by rw [h.next]; exact (h.files f hf).1
theorem Inv.add (h : Inv i c s T W) {t : List En} (h0 : t ≠ []) (hu : Up t) (hk : ∀ x ∈ t, KeyOk x.key) (hl : t.length ≤ 20) :
    Inv (i + 1) (c + 1) ⟨s.next + 1, 0, tab s.next 0 t :: s.files⟩ (T ++ [t]) (puts t W) := by
  have hn := h.nlt
  have hg : tbl (T ++ [t]) (tab s.next 0 t) = t := tbl_new T t h.next.symm
  refine ⟨by rw [List.length_append, h.next]; rfl, by have := h.nextB; show s.next + 1 ≤ c + 1; omega, rfl, fun f hf => ?_, ?_, ?_, puts_up t h.upW, fun k => ?_, ?_, ?_⟩
  · rcases List.mem_cons.1 hf with rfl | hf
    · exact ⟨Nat.lt_succ_self _, by show 0 < 4; omega, by rw [hg]; exact tab_ok h0 hu hk⟩
    · obtain ⟨a, b, d⟩ := h.files f hf
      exact ⟨Nat.lt_succ_of_lt a, b, by rw [tbl_app T t (hn f hf)]; exact d⟩
  · refine List.pairwise_cons.2 ⟨fun f hf => ?_, h.sorted⟩
    by_cases h1 : f.lev = 0
    · exact .inr ⟨h1.symm, .inl ⟨rfl, (h.files f hf).1⟩⟩
    · exact .inl (by show 0 < f.lev; omega)
  · exact List.pairwise_cons.2 ⟨fun f hf e => by have h1 := (h.files f hf).1; have e : s.next = f.num := e; omega, h.nums⟩
  · show live (H (T ++ [t]) k (tab s.next 0 t :: s.files)) = _
    rw [H_cons, hg, puts_get k t hu h.upW, live_or, live_or]
    unfold H
    rw [map_tbl_app T t hn]
    cases get k t with
    | some e => rfl
    | none => exact h.look k
  · show total ((tab s.next 0 t :: s.files).map _) ≤ _
    rw [List.map_cons, total_cons, hg, map_tbl_app T t hn]
    have := h.tot
    omega
  · show s.files.length + 1 ≤ i + 1
    have := h.few
    omega
theorem mem_hull (h : Inv i c s T W) (hj : JobOk s j) {f : Fi} (hf : f ∈ mine s j) {k : List UInt8} (hk : In k f.first f.last) : In k (span (mine s j)).1 (span (mine s j)).2 := by
  obtain ⟨q1, _, _⟩ := span_spec (mine_ne h hj)
  exact ⟨B_le_le (q1 f hf).1 hk.1, B_le_le hk.2 (q1 f hf).2⟩
theorem mine_file (h : Inv i c s T W) {f : Fi} (hf : f ∈ mine s j) : FileOk f (tbl T f) ∧ f ∈ s.files := by
  have hm := (List.mem_filter.1 hf).1
  exact ⟨(h.files f hm).2.2, hm⟩
theorem mine_ups (h : Inv i c s T W) : ∀ l ∈ (mine s j).map (tbl T), Up l := by
  intro l hl
  obtain ⟨f, hf, rfl⟩ := List.mem_map.1 hl
  exact (mine_file h hf).1.up
/-- What a job makes. -/
def made (s : St) (T : List (List En)) (j : Jb) : List En := merge ((mine s j).map (tbl T)) (lastJ s j)
theorem made_up (h : Inv i c s T W) : Up (made s T j) := merge_up _ _ (mine_ups h)
theorem made_get (h : Inv i c s T W) (k : List UInt8) : get k (made s T j) = sel (lastJ s j) (H T k (mine s j)) := merge_get _ _ (mine_ups h) k
theorem made_in (h : Inv i c s T W) (hj : JobOk s j) : ∀ z ∈ made s T j, In z.key (span (mine s j)).1 (span (mine s j)).2 ∧ KeyOk z.key := by
  intro z hz
  obtain ⟨l, hl, hzl⟩ := merge_mem _ _ (mine_ups h) z hz
  obtain ⟨f, hf, rfl⟩ := List.mem_map.1 hl
  have hF := (mine_file h hf).1
  exact ⟨mem_hull h hj hf (hF.cov z hzl), hF.keys z hzl⟩
theorem made_len (h : Inv i c s T W) : (made s T j).length ≤ total ((mine s j).map (tbl T)) := merge_len _ _ (mine_ups h)
theorem gone_lev (h : Inv i c s T W) (hj : JobOk s j) {f : Fi} (hf : f ∈ mine s j) : f.lev = j.lev ∨ f.lev = j.lev + 1 := by
  rcases (mem_mine h hj).1 hf with h1 | h1
  · exact .inl (from_mem hj f h1).2
  · exact .inr (to_mem hj f h1).2.1
theorem rest_filter (h : Inv i c s T W) (hj : JobOk s j) (q : Fi → Bool) (hq : ∀ f, q f = true → f.lev ≠ j.lev ∧ f.lev ≠ j.lev + 1) : (rest s j).filter q = s.files.filter q := by
  unfold rest
  rw [List.filter_filter]
  apply List.filter_congr
  intro f hf
  cases hqf : q f with
  | false => simp
  | true =>
    have h1 := hq f hqf
    have : ¬ f.num ∈ goneN j := by
      intro hg
      have := gone_lev h hj (f := f) (List.mem_filter.2 ⟨hf, by simpa using hg⟩)
      omega
    simp [this]
theorem H_only {T : List (List En)} {k : List UInt8} {g : Fi} : ∀ {fs : List Fi}, g ∈ fs → (∀ f ∈ fs, f ≠ g → get k (tbl T f) = none) → H T k fs = get k (tbl T g)
  | f :: fs, hg, hn => by
    rw [H_cons]
    by_cases e : f = g
    · subst e
      cases hf : get k (tbl T f) with
      | some y => rfl
      | none =>
        rw [Option.none_or]
        refine H_none fun x hx => ?_
        by_cases e2 : x = f
        · rw [e2]; exact hf
        · exact hn x (List.mem_cons_of_mem _ hx) e2
    · rw [hn f List.mem_cons_self e, Option.none_or]
      rcases List.mem_cons.1 hg with h1 | h1
      · exact absurd h1.symm e
      · exact H_only h1 fun x hx => hn x (List.mem_cons_of_mem _ hx)
/-- The files behind a job. -/
def Behind' (s : St) (T : List (List En)) (j : Jb) (s' : St) (T' : List (List En)) : Prop :=
  (made s T j = [] ∧ s' = ⟨s.next, 0, rest s j⟩ ∧ T' = T) ∨
  (made s T j ≠ [] ∧ ∃ a b, rest s j = a ++ b ∧ s' = ⟨s.next + 1, 0, a ++ tab s.next (j.lev + 1) (made s T j) :: b⟩ ∧ T' = T ++ [made s T j])
theorem job_look (h : Inv i c s T W) (hj : JobOk s j) {s' : St} {T' : List (List En)} (hb : Behind' s T j s' T') (hs' : s'.files.Pairwise S) (k : List UInt8) : live (H T' k s'.files) = live (H T k s.files) := by
  have hn := h.nlt
  have hrn : ∀ f ∈ rest s j, f.num < T.length := fun f hf => hn f (List.mem_filter.1 hf).1
  -- what stays reads as before
  have hH : ∀ fs : List Fi, (∀ f ∈ fs, f.num < T.length) → H T' k fs = H T k fs := fun fs hfs => by
    rcases hb with ⟨_, _, rfl⟩ | ⟨_, _, _, _, _, rfl⟩
    · rfl
    · unfold H; rw [map_tbl_app T _ hfs]
  by_cases hk : In k (span (mine s j)).1 (span (mine s j)).2
  · have far : ∀ r ∈ rest s j, r.lev = j.lev + 1 → get k (tbl T r) = none := fun r hr hl => by
      refine (h.files r (List.mem_filter.1 hr).1).2.2.out fun hkr => ?_
      rcases rest_far h hj hr hl with h1 | h1
      · have := B_lt_le h1 hk.1
        rw [hkr.2] at this; cases this
      · have := B_le_lt hk.2 h1
        rw [hkr.1] at this; cases this
    have hM : H T k (mine s j) = (H T k ((mine s j).filter fun f => decide (f.lev = j.lev))).or (H T k ((mine s j).filter fun f => decide (f.lev = j.lev + 1))) := by
      have hps : (mine s j).Pairwise S := h.sorted.filter _
      rw [H_levels k hps j.lev]
      have e1 : (mine s j).filter (fun f => decide (f.lev < j.lev)) = [] := by
        rw [List.filter_eq_nil_iff]
        intro f hf
        have := gone_lev h hj hf
        simp; omega
      have e4 : (mine s j).filter (fun f => decide (j.lev + 2 ≤ f.lev)) = [] := by
        rw [List.filter_eq_nil_iff]
        intro f hf
        have := gone_lev h hj hf
        simp; omega
      rw [e1, e4]
      show (none : Option En).or _ = _
      rw [Option.none_or]
      congr 1
      exact Option.or_none
    have hX3 : H T k (s.files.filter fun f => decide (f.lev = j.lev + 1)) = H T k ((mine s j).filter fun f => decide (f.lev = j.lev + 1)) := by
      unfold mine
      rw [List.filter_filter]
      have : (s.files.filter fun f => decide (f.lev = j.lev + 1) && decide (f.num ∈ goneN j)) = (s.files.filter fun f => decide (f.lev = j.lev + 1)).filter fun f => decide (f.num ∈ goneN j) := by
        rw [List.filter_filter]
        exact List.filter_congr fun f _ => Bool.and_comm _ _
      rw [this]
      refine (H_filter fun f hf hg => ?_).symm
      obtain ⟨h1, h2⟩ := List.mem_filter.1 hf
      exact far f (List.mem_filter.2 ⟨h1, by rw [hg]; rfl⟩) (by simpa using h2)
    have hA1 : s'.files.filter (fun f => decide (f.lev < j.lev)) = s.files.filter fun f => decide (f.lev < j.lev) := by
      have e := rest_filter h hj (fun f => decide (f.lev < j.lev)) (fun f hf => by have : f.lev < j.lev := by simpa using hf
                                                                                   omega)
      rcases hb with ⟨_, rfl, _⟩ | ⟨_, a, b, hab, rfl, _⟩
      · exact e
      · show (a ++ _ :: b).filter _ = _
        rw [List.filter_append, List.filter_cons, if_neg (by show ¬ decide (j.lev + 1 < j.lev) = true; simp), ← List.filter_append, ← hab, e]
    have hA4 : s'.files.filter (fun f => decide (j.lev + 2 ≤ f.lev)) = s.files.filter fun f => decide (j.lev + 2 ≤ f.lev) := by
      have e := rest_filter h hj (fun f => decide (j.lev + 2 ≤ f.lev)) (fun f hf => by have : j.lev + 2 ≤ f.lev := by simpa using hf
                                                                                       omega)
      rcases hb with ⟨_, rfl, _⟩ | ⟨_, a, b, hab, rfl, _⟩
      · exact e
      · show (a ++ _ :: b).filter _ = _
        rw [List.filter_append, List.filter_cons, if_neg (by show ¬ decide (j.lev + 2 ≤ j.lev + 1) = true; simp), ← List.filter_append, ← hab, e]
    have hY2 : s'.files.filter (fun f => decide (f.lev = j.lev)) = (rest s j).filter fun f => decide (f.lev = j.lev) := by
      rcases hb with ⟨_, rfl, _⟩ | ⟨_, a, b, hab, rfl, _⟩
      · rfl
      · show (a ++ _ :: b).filter _ = _
        rw [List.filter_append, List.filter_cons, if_neg (by show ¬ decide (j.lev + 1 = j.lev) = true; simp), ← List.filter_append, ← hab]
    have hY3 : H T' k (s'.files.filter fun f => decide (f.lev = j.lev + 1)) = get k (made s T j) := by
      rcases hb with ⟨h0, rfl, rfl⟩ | ⟨h0, a, b, hab, rfl, rfl⟩
      · rw [h0, get_nil]
        refine H_none fun f hf => ?_
        obtain ⟨h1, h2⟩ := List.mem_filter.1 hf
        exact far f h1 (by simpa using h2)
      · have hgt : tbl (T ++ [made s T j]) (tab s.next (j.lev + 1) (made s T j)) = made s T j := tbl_new _ _ h.next.symm
        refine (H_only (g := tab s.next (j.lev + 1) (made s T j)) (List.mem_filter.2 ⟨by simp, by show decide (j.lev + 1 = j.lev + 1) = true; simp⟩) fun f hf hne => ?_).trans (by rw [hgt])
        obtain ⟨h1, h2⟩ := List.mem_filter.1 hf
        have hfr : f ∈ rest s j := by
          rw [hab]
          rcases List.mem_append.1 h1 with h3 | h3
          · exact List.mem_append_left _ h3
          · rcases List.mem_cons.1 h3 with h3 | h3
            · exact absurd h3 hne
            · exact List.mem_append_right _ h3
        rw [tbl_app T _ (hrn f hfr)]
        exact far f hfr (by simpa using h2)
    rw [H_levels k hs' j.lev, H_levels k h.sorted j.lev, hY3, hA1, hA4, hY2, made_get h]
    rw [hH _ fun f hf => hn f (List.mem_filter.1 hf).1, hH _ fun f hf => hrn f (List.mem_filter.1 hf).1, hH _ fun f hf => hn f (List.mem_filter.1 hf).1]
    have hcomm : ((rest s j).filter fun f => decide (f.lev = j.lev)) = (s.files.filter fun f => decide (f.lev = j.lev)).filter fun f => !decide (f.num ∈ goneN j) := by
      unfold rest
      rw [List.filter_filter, List.filter_filter]
      exact List.filter_congr fun f _ => Bool.and_comm _ _
    have hcomm2 : ((mine s j).filter fun f => decide (f.lev = j.lev)) = (s.files.filter fun f => decide (f.lev = j.lev)).filter fun f => decide (f.num ∈ goneN j) := by
      unfold mine
      rw [List.filter_filter, List.filter_filter]
      exact List.filter_congr fun f _ => Bool.and_comm _ _
    cases hy : H T k ((rest s j).filter fun f => decide (f.lev = j.lev)) with
    | some e =>
      have hX2 : H T k (s.files.filter fun f => decide (f.lev = j.lev)) = some e := by
        rw [← hy, hcomm]
        refine (H_filter fun o ho hg => ?_).symm
        -- a file that goes, on the same level as one that stays and has the key
        obtain ⟨h1, h2⟩ := List.mem_filter.1 ho
        have hog : o.num ∈ goneN j := by simpa using hg
        have h2 : o.lev = j.lev := by simpa using h2
        have hex : ∃ r ∈ (rest s j).filter (fun f => decide (f.lev = j.lev)), get k (tbl T r) ≠ none := by
          by_cases hne : ∃ r ∈ (rest s j).filter (fun f => decide (f.lev = j.lev)), get k (tbl T r) ≠ none
          · exact hne
          · rw [H_none fun f hf => Classical.byContradiction fun hc => hne ⟨f, hf, hc⟩] at hy
            cases hy
        obtain ⟨r, hr, hrk⟩ := hex
        obtain ⟨hr1, hr2⟩ := List.mem_filter.1 hr
        have hr2 : r.lev = j.lev := by simpa using hr2
        obtain ⟨hrf, hrF, _⟩ := (mem_rest h hj).1 hr1
        have hoF : o ∈ j.from_ := by
          rcases (gone_iff h hj h1).1 hog with h3 | h3
          · exact h3
          · have := (to_mem hj o h3).2.1; omega
        have hl0 : 0 < j.lev := by
          rcases hj.2.2.2 with ⟨h3, h4⟩ | ⟨h3, _⟩
          · exact absurd (by rw [h4]; exact List.mem_filter.2 ⟨hrf, by simp; omega⟩) hrF
          · exact h3
        have hkr : In k r.first r.last := by
          by_cases hc : In k r.first r.last
          · exact hc
          · exact absurd ((h.files r hrf).2.2.out hc) hrk
        refine (h.files o h1).2.2.out fun hko => ?_
        rcases disj h h1 hrf (fun e2 => hrF (mem_num h.nums h1 hrf e2 ▸ hoF)) (by omega) (by omega) with h3 | h3
        · have := B_lt_le (B_le_lt hko.2 h3) hkr.1
          rw [B_irr] at this; cases this
        · have := B_lt_le (B_le_lt hkr.2 h3) hko.1
          rw [B_irr] at this; cases this
      rw [hX2]
      simp only [Option.some_or]
    | none =>
      have hX2 : H T k (s.files.filter fun f => decide (f.lev = j.lev)) = H T k ((mine s j).filter fun f => decide (f.lev = j.lev)) := by
        rw [hcomm2]
        refine (H_filter fun f hf hg => ?_).symm
        refine none_H hy f ?_
        rw [hcomm]
        exact List.mem_filter.2 ⟨hf, by rw [hg]; rfl⟩
      rw [hX2, hX3, Option.none_or]
      generalize H T k (s.files.filter fun f => decide (f.lev < j.lev)) = A1
      generalize H T k ((mine s j).filter fun f => decide (f.lev = j.lev)) = P at *
      generalize H T k ((mine s j).filter fun f => decide (f.lev = j.lev + 1)) = Q at *
      rw [show P.or (Q.or (H T k (s.files.filter fun f => decide (j.lev + 2 ≤ f.lev)))) = (H T k (mine s j)).or (H T k (s.files.filter fun f => decide (j.lev + 2 ≤ f.lev))) by rw [hM, Option.or_assoc]]
      generalize H T k (mine s j) = M
      cases hd : lastJ s j with
      | false => rfl
      | true =>
        have hA : H T k (s.files.filter fun f => decide (j.lev + 2 ≤ f.lev)) = none := by
          refine H_none fun f hf => ?_
          obtain ⟨h1, h2⟩ := List.mem_filter.1 hf
          have h2 : j.lev + 2 ≤ f.lev := by simpa using h2
          refine (h.files f h1).2.2.out fun hkf => ?_
          have hnm : meets (span (mine s j)) f = false := by
            unfold lastJ at hd
            have hd : (deep s (j.lev + 1)).any (meets (span (mine s j))) = false := by simpa using hd
            rw [List.any_eq_false] at hd
            simpa using hd f (List.mem_filter.2 ⟨h1, by simp; omega⟩)
          rcases meets_no hnm with h3 | h3
          · have := B_lt_le (B_le_lt hkf.2 h3) hk.1
            rw [B_irr] at this; cases this
          · have := B_lt_le (B_le_lt hk.2 h3) hkf.1
            rw [B_irr] at this; cases this
        rw [hA]
        simp only [Option.or_none, sel, if_true]
        rw [live_or, live_or]
        cases A1 with
        | some e => rfl
        | none => exact live_live M
  · have hmn : ∀ f ∈ mine s j, get k (tbl T f) = none := fun f hf => (mine_file h hf).1.out fun hkf => hk (mem_hull h hj hf hkf)
    have hX : H T k s.files = H T k (rest s j) := by
      unfold rest
      refine (H_filter fun f hf hg => hmn f (List.mem_filter.2 ⟨hf, by simpa using hg⟩)).symm
    have hmade : get k (made s T j) = none := by rw [made_get h, H_none hmn, sel_none]
    rw [hX]
    rcases hb with ⟨_, rfl, rfl⟩ | ⟨_, a, b, hab, rfl, rfl⟩
    · rfl
    · have hgt : tbl (T ++ [made s T j]) (tab s.next (j.lev + 1) (made s T j)) = made s T j := tbl_new _ _ h.next.symm
      show live (H _ k (a ++ tab s.next (j.lev + 1) (made s T j) :: b)) = _
      rw [H_append, H_cons, hgt, hmade, Option.none_or, ← H_append, ← hab, hH _ hrn]
end
end L
end Go.Proofs.Ytnfabofkfnmplaa
