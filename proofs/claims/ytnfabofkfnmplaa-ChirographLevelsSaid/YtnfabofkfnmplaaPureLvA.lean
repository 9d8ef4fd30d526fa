/- Plain laws: entries by rising keys, what is put over what, lists that become one. No program in sight. -/
import Derived.WideAt
import Derived.WideShapes
namespace Go.Proofs.Ytnfabofkfnmplaa
namespace L
structure En where
  key : List UInt8
  val : List UInt8
  gone : Bool
deriving DecidableEq
abbrev B := bytesBefore
theorem B_irr (a : List UInt8) : B a a = false := Go.WideAt.bytes_irrefl a
theorem B_tr {a b c : List UInt8} (h : B a b = true) (k : B b c = true) : B a c = true := Go.WideShapes.bytes_trans a b c h k
theorem B_tot {a b : List UInt8} (h : a ≠ b) : B a b = true ∨ B b a = true := Go.WideAt.bytes_total a b h
theorem B_ne {a b : List UInt8} (h : B a b = true) : a ≠ b := by rintro rfl; rw [B_irr] at h; cases h
theorem B_as {a b : List UInt8} (h : B a b = true) : B b a = false := by
  cases hb : B b a with
  | false => rfl
  | true => have := B_tr h hb; rw [B_irr] at this; cases this
theorem B_nl {a b : List UInt8} (h : B a b = false) (hne : a ≠ b) : B b a = true := (B_tot hne).elim (fun e => by rw [h] at e; cases e) id
/-- a ≤ b -/
theorem B_le_lt {a b c : List UInt8} (h : B b a = false) (k : B b c = true) : B a c = true := by
  by_cases e : a = b
  · rw [e]; exact k
  · exact B_tr (B_nl h (fun x => e x.symm)) k
theorem B_lt_le {a b c : List UInt8} (h : B a b = true) (k : B c b = false) : B a c = true := by
  by_cases e : b = c
  · rw [← e]; exact h
  · exact B_tr h (B_nl k (fun x => e x.symm))
theorem B_le_le {a b c : List UInt8} (h : B b a = false) (k : B c b = false) : B c a = false := by
  cases hc : B c a with
  | false => rfl
  | true => have := B_lt_le hc h; rw [k] at this; cases this
/-- Keys rise. -/
def Up (l : List En) : Prop := l.Pairwise fun a b => B a.key b.key = true
def get (k : List UInt8) (l : List En) : Option En := l.find? fun x => x.key == k
theorem get_nil (k : List UInt8) : get k [] = none := rfl
theorem get_cons (k : List UInt8) (x : En) (l : List En) : get k (x :: l) = if x.key = k then some x else get k l := by
  unfold get
  rw [List.find?_cons]
  by_cases h : x.key = k
  · rw [if_pos h, h]; simp
  · have : (x.key == k) = false := by rw [beq_eq_false_iff_ne]; exact h
    rw [if_neg h, this]
theorem get_key {k : List UInt8} {l : List En} {e : En} (h : get k l = some e) : e ∈ l ∧ e.key = k := by
  unfold get at h
  exact ⟨List.mem_of_find?_eq_some h, by have := List.find?_some h; simpa using this⟩
theorem get_none {k : List UInt8} {l : List En} (h : ∀ x ∈ l, x.key ≠ k) : get k l = none := by
  unfold get
  rw [List.find?_eq_none]
  intro x hx
  simpa using h x hx
theorem get_append (k : List UInt8) (l m : List En) : get k (l ++ m) = (get k l).or (get k m) := by
  unfold get
  rw [List.find?_append]
theorem get_mem {l : List En} (h : Up l) {e : En} (he : e ∈ l) : get e.key l = some e := by
  induction l with
  | nil => cases he
  | cons x l ih =>
    obtain ⟨h1, h2⟩ := List.pairwise_cons.1 h
    rw [get_cons]
    rcases List.mem_cons.1 he with rfl | he
    · rw [if_pos rfl]
    · rw [if_neg (B_ne (h1 e he)), ih h2 he]
/-- Two lists of rising keys that read alike are one. -/
theorem up_ext : ∀ {a b : List En}, Up a → Up b → (∀ k, get k a = get k b) → a = b
  | [], [], _, _, _ => rfl
  | [], y :: b, _, _, h => by have := h y.key; rw [get_cons, if_pos rfl, get_nil] at this; cases this
  | x :: a, [], _, _, h => by have := h x.key; rw [get_cons, if_pos rfl, get_nil] at this; cases this
  | x :: a, y :: b, ha, hb, h => by
    obtain ⟨a1, a2⟩ := List.pairwise_cons.1 ha
    obtain ⟨b1, b2⟩ := List.pairwise_cons.1 hb
    have hxy : x = y := by
      have h1 := h x.key
      have h2 := h y.key
      rw [get_cons, if_pos rfl, get_cons] at h1
      rw [get_cons, get_cons, if_pos rfl] at h2
      by_cases e : y.key = x.key
      · rw [if_pos e] at h1; injection h1
      · rw [if_neg e] at h1
        rw [if_neg (fun q => e q.symm)] at h2
        obtain ⟨m1, m2⟩ := get_key h1.symm
        obtain ⟨m3, m4⟩ := get_key h2
        have := B_tr (b1 x m1) (a1 y m3)
        rw [B_irr] at this; cases this
    subst hxy
    congr 1
    refine up_ext a2 b2 fun k => ?_
    have hk := h k
    rw [get_cons, get_cons] at hk
    by_cases e : x.key = k
    · subst e
      rw [get_none fun z hz => (B_ne (a1 z hz)).symm, get_none fun z hz => (B_ne (b1 z hz)).symm]
    · rwa [if_neg e, if_neg e] at hk
/-- An entry takes its place. -/
def put (x : En) : List En → List En
  | [] => [x]
  | y :: r => if B y.key x.key = true then y :: put x r else if y.key = x.key then x :: r else x :: y :: r
theorem put_mem {x z : En} : ∀ {l : List En}, z ∈ put x l → z = x ∨ z ∈ l
  | [], h => by simpa [put] using h
  | y :: r, h => by
    unfold put at h
    split at h
    · rcases List.mem_cons.1 h with rfl | h
      · exact .inr List.mem_cons_self
      · exact (put_mem h).imp id (List.mem_cons_of_mem _)
    · split at h
      · rcases List.mem_cons.1 h with rfl | h
        · exact .inl rfl
        · exact .inr (List.mem_cons_of_mem _ h)
      · rcases List.mem_cons.1 h with rfl | h
        · exact .inl rfl
        · exact .inr h
theorem put_len (x : En) : ∀ l : List En, (put x l).length ≤ l.length + 1
  | [] => by simp [put]
  | y :: r => by
    unfold put
    have := put_len x r
    split
    · simp; omega
    · split <;> simp
theorem put_up {x : En} : ∀ {l : List En}, Up l → Up (put x l)
  | [], _ => by simp [put, Up]
  | y :: r, h => by
    obtain ⟨h1, h2⟩ := List.pairwise_cons.1 h
    unfold put
    split
    · rename_i hy
      refine List.pairwise_cons.2 ⟨fun z hz => ?_, put_up h2⟩
      rcases put_mem hz with rfl | hz
      · exact hy
      · exact h1 z hz
    · rename_i hy
      have hy' : B y.key x.key = false := by simpa using hy
      split
      · rename_i e
        exact List.pairwise_cons.2 ⟨fun z hz => by rw [← e]; exact h1 z hz, h2⟩
      · rename_i e
        have hxy := B_nl hy' e
        refine List.pairwise_cons.2 ⟨fun z hz => ?_, h⟩
        rcases List.mem_cons.1 hz with rfl | hz
        · exact hxy
        · exact B_tr hxy (h1 z hz)
theorem put_get {x : En} (k : List UInt8) : ∀ {l : List En}, Up l → get k (put x l) = if x.key = k then some x else get k l
  | [], _ => by show get k [x] = _; rw [get_cons]
  | y :: r, h => by
    obtain ⟨h1, h2⟩ := List.pairwise_cons.1 h
    unfold put
    split
    · rename_i hy
      rw [get_cons, get_cons, put_get k h2]
      by_cases e : y.key = k
      · rw [if_pos e, if_pos e, if_neg (fun q => by rw [e, ← q, B_irr] at hy; cases hy)]
      · rw [if_neg e, if_neg e]
    · split
      · rename_i e
        rw [get_cons, get_cons]
        by_cases ek : x.key = k
        · rw [if_pos ek, if_pos ek]
        · rw [if_neg ek, if_neg ek, if_neg (by rw [e]; exact ek)]
      · rw [get_cons]
def puts (l : List En) (w : List En) : List En := l.foldl (fun w x => put x w) w
theorem puts_up : ∀ (l : List En) {w : List En}, Up w → Up (puts l w)
  | [], _, h => h
  | x :: l, w, h => puts_up l (w := put x w) (put_up h)
theorem puts_get (k : List UInt8) : ∀ (l : List En) {w : List En}, Up l → Up w → get k (puts l w) = (get k l).or (get k w)
  | [], w, _, _ => by simp [puts, get_nil]
  | x :: l, w, h, hw => by
    obtain ⟨h1, h2⟩ := List.pairwise_cons.1 h
    show get k (puts l (put x w)) = _
    rw [puts_get k l h2 (put_up hw), put_get k hw, get_cons]
    by_cases e : x.key = k
    · rw [if_pos e, if_pos e, get_none fun z hz q => B_ne (h1 z hz) (e.trans q.symm)]; rfl
    · rw [if_neg e, if_neg e]
theorem puts_len : ∀ (l : List En) (w : List En), (puts l w).length ≤ l.length + w.length
  | [], w => by simp [puts]
  | x :: l, w => by
    have h1 := puts_len l (put x w)
    have h2 := put_len x w
    show (puts l (put x w)).length ≤ _
    rw [List.length_cons]; omega
/-- What is read, when deleted entries don't count. -/
def live : Option En → Option En
  | some e => if e.gone = true then none else some e
  | none => none
def drop (l : List En) : List En := l.filter fun x => !x.gone
theorem drop_up {l : List En} (h : Up l) : Up (drop l) := List.Pairwise.filter _ h
theorem drop_get (k : List UInt8) : ∀ {l : List En}, Up l → get k (drop l) = live (get k l)
  | [], _ => rfl
  | x :: l, h => by
    obtain ⟨h1, h2⟩ := List.pairwise_cons.1 h
    have ih := drop_get k h2
    unfold drop at ih ⊢
    rw [List.filter_cons, get_cons]
    by_cases e : x.key = k
    · rw [if_pos e]
      cases hg : x.gone with
      | false => simp [live, hg, get_cons, e]
      | true =>
        simp only [live, hg]
        show get k (List.filter _ l) = none
        rw [ih, get_none fun z hz q => B_ne (h1 z hz) (e.trans q.symm)]; rfl
    · rw [if_neg e, ← ih]
      split
      · rw [get_cons, if_neg e]
      · rfl
/-- The first list's entry. -/
def hit (k : List UInt8) : List (List En) → Option En
  | [] => none
  | l :: r => (get k l).or (hit k r)
theorem hit_append (k : List UInt8) : ∀ (a b : List (List En)), hit k (a ++ b) = (hit k a).or (hit k b)
  | [], b => by simp [hit]
  | l :: a, b => by
    show (get k l).or (hit k (a ++ b)) = ((get k l).or (hit k a)).or (hit k b)
    rw [hit_append k a b, Option.or_assoc]
theorem hit_none {k : List UInt8} : ∀ {a : List (List En)}, (∀ l ∈ a, get k l = none) → hit k a = none
  | [], _ => rfl
  | l :: a, h => by
    show (get k l).or (hit k a) = none
    rw [h l List.mem_cons_self, hit_none fun l hl => h l (List.mem_cons_of_mem _ hl)]; rfl
/-! ### lists that become one -/
/-- The least head; of one key the first; with its place. -/
def lstGo : Nat → Option (Nat × En) → List (List En) → Option (Nat × En)
  | _, cur, [] => cur
  | i, cur, [] :: r => lstGo (i + 1) cur r
  | i, none, (x :: _) :: r => lstGo (i + 1) (some (i, x)) r
  | i, some m, (x :: _) :: r => if B x.key m.2.key = true then lstGo (i + 1) (some (i, x)) r else lstGo (i + 1) (some m) r
def lst (cs : List (List En)) : Option (Nat × En) := lstGo 0 none cs
def total (cs : List (List En)) : Nat := (cs.map List.length).sum
def tl (cs : List (List En)) (i : Nat) : List (List En) := cs.set i ((cs.getD i []).tail)
def mrg (dr : Bool) : Nat → List (List En) → Option (List UInt8) → List En
  | 0, _, _ => []
  | f + 1, cs, last => match lst cs with
    | none => []
    | some (i, x) => if last = some x.key then mrg dr f (tl cs i) last else (if dr = false ∨ x.gone = false then [x] else []) ++ mrg dr f (tl cs i) (some x.key)
def merge (cs : List (List En)) (dr : Bool) : List En := mrg dr (total cs + 1) cs none
/-- What lstGo finds. -/
theorem lstGo_spec : ∀ (r : List (List En)) (i : Nat) (cur : Option (Nat × En)) (done : List (List En)), done.length = i →
    (match cur with | none => ∀ l ∈ done, l = [] | some (j, m) => (∃ t, done[j]? = some (m :: t)) ∧ (∀ n x t, done[n]? = some (x :: t) → B x.key m.key = false ∧ (n < j → B m.key x.key = true))) →
    (match lstGo i cur r with | none => ∀ l ∈ done ++ r, l = [] | some (j, m) => (∃ t, (done ++ r)[j]? = some (m :: t)) ∧ (∀ n x t, (done ++ r)[n]? = some (x :: t) → B x.key m.key = false ∧ (n < j → B m.key x.key = true)))
  | [], i, cur, done, hi, h => by unfold lstGo; rw [List.append_nil]; exact h
  | [] :: r, i, cur, done, hi, h => by
    unfold lstGo
    have ih := lstGo_spec r (i + 1) cur (done ++ [[]]) (by rw [List.length_append, List.length_singleton, hi])
    rw [List.append_assoc] at ih
    refine ih ?_
    cases cur with
    | none =>
      intro l hl
      rcases List.mem_append.1 hl with h1 | h1
      · exact h l h1
      · exact List.mem_singleton.1 h1
    | some jm =>
      obtain ⟨j, m⟩ := jm
      obtain ⟨⟨t, ht⟩, h2⟩ := h
      refine ⟨⟨t, by rw [List.getElem?_append_left (List.getElem?_eq_some_iff.1 ht).1]; exact ht⟩, fun n x t' hn => ?_⟩
      rcases Nat.lt_or_ge n done.length with h3 | h3
      · rw [List.getElem?_append_left h3] at hn; exact h2 n x t' hn
      · rw [List.getElem?_append_right h3] at hn
        cases hq : n - done.length with
        | zero => rw [hq] at hn; cases hn
        | succ q => rw [hq] at hn; cases hn
  | (x :: t) :: r, i, cur, done, hi, h => by
    have key : ∀ c, (match c with | none => ∀ l ∈ done ++ [x :: t], l = [] | some (j, m) => (∃ t', (done ++ [x :: t])[j]? = some (m :: t')) ∧ (∀ n y t', (done ++ [x :: t])[n]? = some (y :: t') → B y.key m.key = false ∧ (n < j → B m.key y.key = true))) →
        (match lstGo (i + 1) c r with | none => ∀ l ∈ done ++ (x :: t) :: r, l = [] | some (j, m) => (∃ t', (done ++ (x :: t) :: r)[j]? = some (m :: t')) ∧ (∀ n y t', (done ++ (x :: t) :: r)[n]? = some (y :: t') → B y.key m.key = false ∧ (n < j → B m.key y.key = true))) := by
      intro c hc
      have ih := lstGo_spec r (i + 1) c (done ++ [x :: t]) (by rw [List.length_append, List.length_singleton, hi]) hc
      rw [List.append_assoc] at ih
      exact ih
    have old : ∀ n y t', (done ++ [x :: t])[n]? = some (y :: t') → (n < done.length ∧ done[n]? = some (y :: t')) ∨ (n = done.length ∧ y = x) := by
      intro n y t' hn
      rcases Nat.lt_or_ge n done.length with h3 | h3
      · rw [List.getElem?_append_left h3] at hn; exact .inl ⟨h3, hn⟩
      · rw [List.getElem?_append_right h3] at hn
        cases hq : n - done.length with
        | zero => rw [hq] at hn; injection hn with hn; injection hn with hn _; exact .inr ⟨by omega, hn.symm⟩
        | succ q => rw [hq] at hn; cases hn
    have new : (done ++ [x :: t])[i]? = some (x :: t) := by rw [← hi, List.getElem?_append_right (Nat.le_refl _), Nat.sub_self]; rfl
    cases cur with
    | none =>
      unfold lstGo
      refine key (some (i, x)) ⟨⟨t, new⟩, fun n y t' hn => ?_⟩
      rcases old n y t' hn with ⟨_, h3⟩ | ⟨h3, rfl⟩
      · have := h _ (List.mem_of_getElem? h3); cases this
      · exact ⟨B_irr _, fun h4 => by omega⟩
    | some jm =>
      obtain ⟨j, m⟩ := jm
      obtain ⟨⟨tm, ht⟩, h2⟩ := h
      have hj := (List.getElem?_eq_some_iff.1 ht).1
      unfold lstGo
      by_cases hb : B x.key m.key = true
      · rw [if_pos hb]
        refine key (some (i, x)) ⟨⟨t, new⟩, fun n y t' hn => ?_⟩
        rcases old n y t' hn with ⟨h4, h3⟩ | ⟨h3, rfl⟩
        · have h5 := (h2 n y t' h3).1
          have h6 : B x.key y.key = true := B_lt_le hb h5
          exact ⟨B_as h6, fun _ => h6⟩
        · exact ⟨B_irr _, fun h4 => by omega⟩
      · rw [if_neg hb]
        have hb' : B x.key m.key = false := by simpa using hb
        refine key (some (j, m)) ⟨⟨tm, by rw [List.getElem?_append_left hj]; exact ht⟩, fun n y t' hn => ?_⟩
        rcases old n y t' hn with ⟨_, h3⟩ | ⟨h3, rfl⟩
        · exact h2 n y t' h3
        · exact ⟨hb', fun h4 => by omega⟩
theorem lst_none {cs : List (List En)} (h : lst cs = none) : ∀ l ∈ cs, l = [] := by
  have := lstGo_spec cs 0 none [] rfl (by simp)
  unfold lst at h
  rw [h] at this
  simpa using this
theorem lst_some {cs : List (List En)} {i : Nat} {x : En} (h : lst cs = some (i, x)) : (∃ t, cs[i]? = some (x :: t)) ∧ ∀ n y t, cs[n]? = some (y :: t) → B y.key x.key = false ∧ (n < i → B x.key y.key = true) := by
  have := lstGo_spec cs 0 none [] rfl (by simp)
  unfold lst at h
  rw [h] at this
  simpa using this
theorem sum_set : ∀ (l : List Nat) (i a : Nat), l[i]? = some (a + 1) → (l.set i a).sum + 1 = l.sum
  | [], i, a, h => by cases h
  | x :: l, 0, a, h => by injection h with h; subst h; simp; omega
  | x :: l, i + 1, a, h => by
    have ih := sum_set l i a h
    rw [List.set_cons_succ, List.sum_cons, List.sum_cons]; omega
theorem total_tl {cs : List (List En)} {i : Nat} {x : En} {t : List En} (h : cs[i]? = some (x :: t)) : total (tl cs i) + 1 = total cs := by
  unfold total tl
  have hg : cs.getD i [] = x :: t := by rw [List.getD_eq_getElem?_getD, h]; rfl
  rw [hg, List.map_set]
  exact sum_set _ _ _ (by rw [List.getElem?_map, h]; rfl)
theorem up_tail {x : En} {t : List En} (h : Up (x :: t)) : Up t := (List.pairwise_cons.1 h).2
theorem tl_up {cs : List (List En)} (h : ∀ l ∈ cs, Up l) (i : Nat) : ∀ l ∈ tl cs i, Up l := by
  intro l hl
  unfold tl at hl
  rcases List.mem_or_eq_of_mem_set hl with h1 | h1
  · exact h l h1
  · rw [h1]
    cases hg : cs[i]? with
    | none => rw [List.getD_eq_getElem?_getD, hg]; simp [Up]
    | some c =>
      rw [List.getD_eq_getElem?_getD, hg]
      have := h c (List.mem_of_getElem? hg)
      cases c with
      | nil => simp [Up]
      | cons x t => exact up_tail this
/-- The other keys are read as before. -/
theorem hit_tl {k : List UInt8} : ∀ {cs : List (List En)} {i : Nat} {x : En} {t : List En}, cs[i]? = some (x :: t) → x.key ≠ k → hit k (tl cs i) = hit k cs
  | [], i, x, t, h, _ => by cases h
  | l :: cs, 0, x, t, h, hk => by
    injection h with h
    subst h
    show (get k t).or (hit k cs) = (get k (x :: t)).or (hit k cs)
    rw [get_cons, if_neg hk]
  | l :: cs, i + 1, x, t, h, hk => by
    have ih := hit_tl (cs := cs) (i := i) (k := k) h hk
    show (get k l).or (hit k (tl cs i)) = _
    rw [ih]; rfl
theorem hit_least {cs : List (List En)} (hu : ∀ l ∈ cs, Up l) {i : Nat} {x : En} (h : lst cs = some (i, x)) : hit x.key cs = some x := by
  obtain ⟨⟨t, ht⟩, h2⟩ := lst_some h
  have hi := (List.getElem?_eq_some_iff.1 ht).1
  have hsplit : cs = cs.take i ++ (x :: t) :: cs.drop (i + 1) := by
    have := List.take_append_drop i cs
    rw [List.drop_eq_getElem_cons hi] at this
    rw [List.getElem?_eq_getElem hi] at ht
    injection ht with ht
    rw [ht] at this
    exact this.symm
  rw [hsplit, hit_append]
  have hn : hit x.key (cs.take i) = none := by
    refine hit_none fun l hl => ?_
    obtain ⟨n, hn⟩ := List.getElem?_of_mem hl
    rw [List.getElem?_take] at hn
    split at hn
    · rename_i hni
      cases l with
      | nil => rfl
      | cons y t' =>
        have h3 := (h2 n y t' hn).2 hni
        have hul := hu _ (List.mem_of_getElem? hn)
        obtain ⟨p1, _⟩ := List.pairwise_cons.1 hul
        refine get_none fun z hz => ?_
        rcases List.mem_cons.1 hz with rfl | hz
        · exact (B_ne h3).symm
        · exact (B_ne (B_tr h3 (p1 z hz))).symm
    · cases hn
  rw [hn]
  show (get x.key (x :: t)).or _ = _
  rw [get_cons, if_pos rfl]; rfl
/-- Every entry of a list is at or behind the least head. -/
theorem least_le {cs : List (List En)} (hu : ∀ l ∈ cs, Up l) {i : Nat} {x : En} (h : lst cs = some (i, x)) : ∀ l ∈ cs, ∀ z ∈ l, B z.key x.key = false := by
  intro l hl z hz
  obtain ⟨_, h2⟩ := lst_some h
  obtain ⟨n, hn⟩ := List.getElem?_of_mem hl
  cases l with
  | nil => cases hz
  | cons y t =>
    have h3 := (h2 n y t hn).1
    rcases List.mem_cons.1 hz with rfl | hz
    · exact h3
    · exact B_le_le h3 (B_as ((List.pairwise_cons.1 (hu _ hl)).1 z hz))
theorem mem_tl {cs : List (List En)} {i : Nat} {l : List En} {z : En} (hl : l ∈ tl cs i) (hz : z ∈ l) : ∃ l' ∈ cs, z ∈ l' := by
  unfold tl at hl
  rcases List.mem_or_eq_of_mem_set hl with h1 | h1
  · exact ⟨l, h1, hz⟩
  · rw [h1] at hz
    cases hg : cs[i]? with
    | none => rw [List.getD_eq_getElem?_getD, hg] at hz; cases hz
    | some c => rw [List.getD_eq_getElem?_getD, hg] at hz; exact ⟨c, List.mem_of_getElem? hg, List.mem_of_mem_tail hz⟩
def sel (dr : Bool) (o : Option En) : Option En := if dr = true then live o else o
theorem sel_none (dr : Bool) : sel dr none = none := by cases dr <;> rfl
/-- What has been given already is no more than what may still be there. -/
def Behind (last : Option (List UInt8)) (cs : List (List En)) : Prop := ∀ q, last = some q → ∀ l ∈ cs, ∀ z ∈ l, B z.key q = false
theorem mrg_spec (dr : Bool) : ∀ (f : Nat) (cs : List (List En)) (last : Option (List UInt8)), (∀ l ∈ cs, Up l) → total cs < f → Behind last cs →
    Up (mrg dr f cs last) ∧ (∀ z ∈ mrg dr f cs last, (∀ q, last = some q → B q z.key = true) ∧ ∃ l ∈ cs, z ∈ l) ∧ (∀ k, (∀ q, last = some q → B q k = true) → get k (mrg dr f cs last) = sel dr (hit k cs)) ∧ (mrg dr f cs last).length ≤ total cs
  | 0, cs, last, _, hf, _ => by omega
  | f + 1, cs, last, hu, hf, hb => by
    unfold mrg
    cases hl : lst cs with
    | none =>
      have h0 := lst_none hl
      refine ⟨by simp [Up], by simp, fun k _ => ?_, by simp⟩
      rw [hit_none fun l h => by rw [h0 l h]; rfl, sel_none]; rfl
    | some ix =>
      obtain ⟨i, x⟩ := ix
      obtain ⟨⟨t, ht⟩, h2⟩ := lst_some hl
      have htot := total_tl ht
      have hle := least_le hu hl
      have hx : x ∈ (x :: t) := List.mem_cons_self
      have hcm := List.mem_of_getElem? ht
      dsimp only
      by_cases e : last = some x.key
      · rw [if_pos e]
        obtain ⟨a1, a2, a3, a4⟩ := mrg_spec dr f (tl cs i) last (tl_up hu i) (by omega) (fun q hq l hl z hz => by
          obtain ⟨l', hl', hz'⟩ := mem_tl hl hz
          exact hb q hq l' hl' z hz')
        refine ⟨a1, fun z hz => ⟨(a2 z hz).1, ?_⟩, fun k hk => ?_, by omega⟩
        · obtain ⟨l, hl, hzl⟩ := (a2 z hz).2
          exact mem_tl hl hzl
        · rw [a3 k hk, hit_tl ht (B_ne (hk _ e))]
      · rw [if_neg e]
        have hxq : ∀ q, last = some q → B q x.key = true := fun q hq => B_nl (hb q hq _ hcm x hx) (fun h => e (by rw [hq, h]))
        obtain ⟨a1, a2, a3, a4⟩ := mrg_spec dr f (tl cs i) (some x.key) (tl_up hu i) (by omega) (fun q hq l hl z hz => by
          injection hq with hq
          subst hq
          obtain ⟨l', hl', hz'⟩ := mem_tl hl hz
          exact hle l' hl' z hz')
        have hbx : ∀ z ∈ mrg dr f (tl cs i) (some x.key), B x.key z.key = true := fun z hz => (a2 z hz).1 _ rfl
        have hlen : (if dr = false ∨ x.gone = false then [x] else [] : List En).length ≤ 1 := by split <;> simp
        refine ⟨?_, fun z hz => ?_, fun k hk => ?_, by rw [List.length_append]; omega⟩
        · split
          · exact List.pairwise_cons.2 ⟨hbx, a1⟩
          · exact a1
        · have hz2 : z = x ∨ z ∈ mrg dr f (tl cs i) (some x.key) := by
            rcases List.mem_append.1 hz with h1 | h1
            · split at h1
              · exact .inl (List.mem_singleton.1 h1)
              · cases h1
            · exact .inr h1
          rcases hz2 with rfl | h1
          · exact ⟨hxq, _, hcm, hx⟩
          · refine ⟨fun q hq => B_tr (hxq q hq) (hbx z h1), ?_⟩
            obtain ⟨l, hl, hzl⟩ := (a2 z h1).2
            exact mem_tl hl hzl
        · rw [get_append]
          by_cases ek : x.key = k
          · subst ek
            rw [hit_least hu hl, get_none (l := mrg dr f (tl cs i) (some x.key)) fun z hz => (B_ne (hbx z hz)).symm]
            cases dr with
            | false => simp [get_cons, sel]
            | true =>
              cases hg : x.gone with
              | false => simp [get_cons, sel, live, hg]
              | true => simp [get_nil, sel, live, hg]
          · have h1 : get k (if dr = false ∨ x.gone = false then [x] else []) = none := by
              split
              · rw [get_cons, if_neg ek]; rfl
              · rfl
            rw [h1, Option.none_or]
            by_cases hkx : B x.key k = true
            · rw [a3 k (fun q hq => by injection hq with hq; rw [← hq]; exact hkx), hit_tl ht ek]
            · have hkx' : B x.key k = false := by simpa using hkx
              have hk2 := B_nl hkx' ek
              rw [get_none fun z hz q => by have := hbx z hz; rw [q, hkx'] at this; cases this]
              rw [hit_none fun l hl => get_none fun z hz q => (by have := hle l hl z hz; rw [q, hk2] at this; cases this), sel_none]
theorem merge_up (cs : List (List En)) (dr : Bool) (hu : ∀ l ∈ cs, Up l) : Up (merge cs dr) := (mrg_spec dr _ cs none hu (Nat.lt_succ_self _) (fun q hq => by cases hq)).1
theorem merge_get (cs : List (List En)) (dr : Bool) (hu : ∀ l ∈ cs, Up l) (k : List UInt8) : get k (merge cs dr) = sel dr (hit k cs) := (mrg_spec dr _ cs none hu (Nat.lt_succ_self _) (fun q hq => by cases hq)).2.2.1 k (fun q hq => by cases hq)
theorem merge_mem (cs : List (List En)) (dr : Bool) (hu : ∀ l ∈ cs, Up l) : ∀ z ∈ merge cs dr, ∃ l ∈ cs, z ∈ l := fun z hz => ((mrg_spec dr _ cs none hu (Nat.lt_succ_self _) (fun q hq => by cases hq)).2.1 z hz).2
theorem merge_len (cs : List (List En)) (dr : Bool) (hu : ∀ l ∈ cs, Up l) : (merge cs dr).length ≤ total cs := (mrg_spec dr _ cs none hu (Nat.lt_succ_self _) (fun q hq => by cases hq)).2.2.2
end L
end Go.Proofs.Ytnfabofkfnmplaa
