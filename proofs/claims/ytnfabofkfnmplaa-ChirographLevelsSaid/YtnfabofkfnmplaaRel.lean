/- A region that draws its order, whose operations may make memory, write and call: each operation shown once, from what it waits for; what each leaves is said by a relation that lasts. -/
import Derived.Test.YtnfabofkfnmplaaKit
import Derived.StillTail
namespace Go.Proofs.Ytnfabofkfnmplaa
open Go.RowKit

section
variable {P : Program}

/-- Just this value; anything. -/
def eqv (c : Value) : Value → World → Prop := fun v _ => v = c
def anyv : Value → World → Prop := fun _ _ => True

/-- Operation i waits for j, at once or through others. -/
inductive Bef (ops : List Oper) : Nat → Nat → Prop
  | one {i : Nat} {o : Oper} {e : Edge} : ops[i]? = some o → e ∈ o.after → Region.binds .any e = true → Bef ops i e.on
  | more {i j : Nat} {o : Oper} {e : Edge} : ops[i]? = some o → e ∈ o.after → Region.binds .any e = true → Bef ops e.on j → Bef ops i j
def ClosedL (ops : List Oper) (L : Array Bool) : Prop := ∀ i o, ops[i]? = some o → L.getD i false = true → ∀ e ∈ o.after, Region.binds .any e = true → L.getD e.on false = true
theorem bef_listed {ops : List Oper} {L : Array Bool} (hc : ClosedL ops L) {i j : Nat} (h : Bef ops i j) : (∀ o, ops[i]? = some o → ∀ e ∈ o.after, Region.binds .any e = true → L.getD e.on false = true) → L.getD j false = true := by
  induction h with
  | one ho he hb => intro ha; exact ha _ ho _ he hb
  | more ho he hb _ ih => intro ha; exact ih fun o' ho' => hc _ _ ho' (ha _ ho _ he hb)
/-- The same as a number whose bits tell for what is waited. -/
def maskOf (acc : List Nat) (o : Oper) : Nat := o.after.toList.foldl (fun s e => if Region.binds .any e then (s ||| 2 ^ e.on) ||| acc.getD e.on 0 else s) 0
/-- A number reckoned out. -/
def reckon {α : Type} (n : Nat) (f : Nat → α) : α := match n with
  | 0 => f 0
  | k + 1 => f (k + 1)
theorem reckon_eq {α : Type} (n : Nat) (f : Nat → α) : reckon n f = f n := by cases n <;> rfl
def withMasks : List Oper → List Nat → (List Nat → Bool) → Bool
  | [], acc, f => f acc
  | o :: l, acc, f => reckon (maskOf acc o) fun m => withMasks l (acc ++ [m]) f
theorem maskOf_sound {ops : List Oper} {acc : List Nat} {o : Oper} {i : Nat} (ho : ops[i]? = some o) (hacc : ∀ k j, (acc.getD k 0).testBit j = true → Bef ops k j) (j : Nat) (h : (maskOf acc o).testBit j = true) : Bef ops i j := by
  have key : ∀ (es : List Edge) (s : Nat), (∀ e ∈ es, e ∈ o.after) → (∀ j, s.testBit j = true → Bef ops i j) → ∀ j, (es.foldl (fun s e => if Region.binds .any e then (s ||| 2 ^ e.on) ||| acc.getD e.on 0 else s) s).testBit j = true → Bef ops i j := by
    intro es
    induction es with
    | nil => intro s _ hs j h; exact hs j h
    | cons e es ih =>
      intro s hin hs j h
      rw [List.foldl_cons] at h
      refine ih _ (fun e' he' => hin e' (List.mem_cons_of_mem _ he')) ?_ j h
      intro j' hj'
      by_cases hb : Region.binds .any e = true
      · rw [if_pos hb, Nat.testBit_or, Nat.testBit_or, Bool.or_eq_true, Bool.or_eq_true] at hj'
        have he := hin e (List.mem_cons_self ..)
        rcases hj' with (hj' | hj') | hj'
        · exact hs j' hj'
        · rw [Nat.testBit_two_pow] at hj'
          have : e.on = j' := by simpa using hj'
          subst this
          exact .one ho he hb
        · exact .more ho he hb (hacc _ _ hj')
      · rw [if_neg hb] at hj'; exact hs j' hj'
  exact key o.after.toList 0 (fun e he => by simpa using he) (fun j h => by simp at h) j h
theorem withMasks_sound {ops : List Oper} {f : List Nat → Bool} : ∀ (l : List Oper) (acc : List Nat), (∀ j, l[j]? = ops[acc.length + j]?) → (∀ k j, (acc.getD k 0).testBit j = true → Bef ops k j) → withMasks l acc f = true → ∃ M, (∀ k j, (M.getD k 0).testBit j = true → Bef ops k j) ∧ f M = true
  | [], acc, _, ha, h => ⟨acc, ha, h⟩
  | o :: l, acc, hl, ha, h => by
    rw [withMasks, reckon_eq] at h
    refine withMasks_sound l _ (fun j => by have := hl (j + 1); rw [List.length_append, List.length_singleton]; simpa [Nat.add_assoc, Nat.add_comm 1 j] using this) (fun k j hk => ?_) h
    rw [List.getD_eq_getElem?_getD] at hk
    rcases Nat.lt_trichotomy k acc.length with hlt | rfl | hgt
    · rw [List.getElem?_append_left hlt, ← List.getD_eq_getElem?_getD] at hk
      exact ha k j hk
    · rw [List.getElem?_append_right (Nat.le_refl _), Nat.sub_self] at hk
      exact maskOf_sound (i := acc.length) (by simpa using (hl 0).symm) ha j (by simpa using hk)
    · rw [List.getElem?_eq_none (by simp; omega)] at hk
      simp at hk

/-- Where the temporaries that an operation looks at come from: another operation, or from before. -/
def srcRow (M : List Nat) (ops : List Oper) (i : Nat) (o : Oper) (row : List (Nat × Option Nat)) : Bool :=
  ((o.looksAt ops.toArray).all fun k => row.any fun p => p.1 == k) &&
  row.all fun p => match p.2 with
    | some j => (match ops[j]? with | some oj => oj.dst == some p.1 | none => false) && (M.getD i 0).testBit j
    | none => (List.range ops.length).all fun j => (match ops[j]? with | some oj => !(oj.dst == some p.1) | none => true) || j == i || (M.getD j 0).testBit i
def srcFrom (M : List Nat) (ops : List Oper) : Nat → List Oper → List (List (Nat × Option Nat)) → Bool
  | _, [], [] => true
  | i, o :: l, r :: S => srcRow M ops i o r && srcFrom M ops (i + 1) l S
  | _, _, _ => false
def plainFrom (n : Nat) : Nat → List (Option Nat) → List Oper → Bool
  | _, _, [] => true
  | i, ds, o :: l => (o.after.toList.all fun e => !Region.binds .any e || decide (e.on < i)) && (match o.op with | .select _ _ => false | _ => true) &&
      (match o.dst with | none => true | some d => decide (d < n) && ds.all fun d' => !(d' == some d)) && plainFrom n (i + 1) (o.dst :: ds) l
/-- Each operation has a slot of its own, waits for earlier ones only, is no select; the table of sources is right. -/
def relB (n : Nat) (l : List Oper) (S : List (List (Nat × Option Nat))) : Bool :=
  plainFrom n 0 [] l && withMasks l [] fun M => srcFrom M l 0 l S

/-- What is known of the temporaries that an operation looks at. -/
def SrcL (Rel : List (Value → World → Prop)) (a0 a : Act) (w : World) : List (Nat × Option Nat) → Prop
  | [] => True
  | (k, none) :: r => a.tmps.getD k undef = a0.tmps.getD k undef ∧ SrcL Rel a0 a w r
  | (k, some j) :: r => (Rel.getD j anyv) (a.tmps.getD k undef) w ∧ SrcL Rel a0 a w r
/-- The operations that have come up, as operation i sees them. -/
structure Seen (ops : List Oper) (i : Nat) (L : Array Bool) : Prop where
  pre : ∀ j, Bef ops i j → L.getD j false = true
  post : ∀ j, Bef ops j i → L.getD j false = false
  self : L.getD i false = false
variable (P)
/-- What an operation leaves. -/
def Left (T : World → World → Prop) (Ph : Array Bool → Act → World → Prop) (R : Value → World → Prop) (i : Nat) (o : Oper) (L : Array Bool) (a : Act) (w : World) (a' : Act) (w' : World) : Prop :=
  ∃ v, a' = a.put o.dst v ∧ R v w' ∧ T w w' ∧ Ph (L.setIfInBounds i true) a' w'
def Ob (ops : List Oper) (T : World → World → Prop) (Ph : Array Bool → Act → World → Prop) (Rel : List (Value → World → Prop)) (Q : Exit → Act → World → Prop) (a0 : Act) (w0 : World) (i : Nat) (o : Oper) (row : List (Nat × Option Nat)) : Prop :=
  ∀ (L : Array Bool) (a : Act) (w : World), T w0 w → Ph L a w → Seen ops i L → SrcL Rel a0 a w row →
    match o.guard with
    | none => o.wp P a w (Left T Ph (Rel.getD i anyv) i o L a w) Q
    | some (g, want) => ∃ b d, (ops[g]?).bind (·.dst) = some d ∧ a.tmps.getD d undef = .bool b ∧
        if b = want then o.wp P a w (Left T Ph (Rel.getD i anyv) i o L a w) Q else Left T Ph (Rel.getD i anyv) i o L a w (a.put o.dst undef) w
def Obs (ops : List Oper) (T : World → World → Prop) (Ph : Array Bool → Act → World → Prop) (Rel : List (Value → World → Prop)) (Q : Exit → Act → World → Prop) (a0 : Act) (w0 : World) : Nat → List Oper → List (List (Nat × Option Nat)) → Prop
  | i, o :: l, r :: S => Ob P ops T Ph Rel Q a0 w0 i o r ∧ Obs ops T Ph Rel Q a0 w0 (i + 1) l S
  | _, _, _ => True
/-- What stands behind the region: for whatever values that the relations allow. -/
def relEnd (Rel : List (Value → World → Prop)) (w : World) (K : Act → Prop) : Nat → List Oper → Act → Prop
  | _, [], a => K a
  | i, o :: l, a => match o.dst with
    | none => relEnd Rel w K (i + 1) l a
    | some d => ∀ v, (Rel.getD i anyv) v w → relEnd Rel w K (i + 1) l (a.put (some d) v)
variable {P}
theorem obs_get {M : List Nat} {ops : List Oper} {T : World → World → Prop} {Ph : Array Bool → Act → World → Prop} {Rel : List (Value → World → Prop)} {Q : Exit → Act → World → Prop} {a0 : Act} {w0 : World} : ∀ (l : List Oper) (S : List (List (Nat × Option Nat))) (k i : Nat) (o : Oper),
    srcFrom M ops k l S = true → Obs P ops T Ph Rel Q a0 w0 k l S → l[i]? = some o → ∃ r, srcRow M ops (k + i) o r = true ∧ Ob P ops T Ph Rel Q a0 w0 (k + i) o r
  | [], _, _, _, _, _, _, h => by simp at h
  | o :: l, [], k, i, o', hs, _, _ => by simp [srcFrom] at hs
  | o :: l, r :: S, k, 0, o', hs, ho, h => by
    simp only [srcFrom, Bool.and_eq_true] at hs
    simp at h
    subst h
    exact ⟨r, hs.1, ho.1⟩
  | o :: l, r :: S, k, i + 1, o', hs, ho, h => by
    simp only [srcFrom, Bool.and_eq_true] at hs
    have := obs_get l S (k + 1) i o' hs.2 ho.2 (by simpa using h)
    rwa [show k + 1 + i = k + (i + 1) from by omega] at this
/-- The state in the region's midst. -/
structure RInv (ops : List Oper) (T : World → World → Prop) (Ph : Array Bool → Act → World → Prop) (Rel : List (Value → World → Prop)) (a0 : Act) (w0 : World) (L : Array Bool) (a : Act) (w : World) : Prop where
  clo : ClosedL ops L
  siz : L.size = ops.length
  rel : ∀ i o d, ops[i]? = some o → o.dst = some d → L.getD i false = true → (Rel.getD i anyv) (a.tmps.getD d undef) w
  old : ∀ k, (∀ i o, ops[i]? = some o → o.dst = some k → L.getD i false = false) → a.tmps.getD k undef = a0.tmps.getD k undef
  tsz : a.tmps.size = a0.tmps.size
  dfr : a.defers = a0.defers
  base : T w0 w
  ph : Ph L a w
theorem put_getD (a : Act) (d k : Nat) (v : Value) (hd : d < a.tmps.size) : (a.put (some d) v).tmps.getD k undef = if k = d then v else a.tmps.getD k undef := by
  by_cases h : k = d
  · subst h; simp [Act.put, hd]
  · rw [if_neg h]
    simp [Act.put, Array.getElem?_setIfInBounds_ne (Ne.symm h)]
theorem setL (L : Array Bool) (i j : Nat) (hi : i < L.size) : (L.setIfInBounds i true).getD j false = if j = i then true else L.getD j false := by
  by_cases h : j = i
  · subst h; simp [hi]
  · rw [if_neg h]; simp [Array.getElem?_setIfInBounds_ne (Ne.symm h)]
theorem count_set : ∀ (l : List Bool) (i : Nat), l[i]? = some false → (l.set i true).count false + 1 = l.count false
  | [], _, h => by simp at h
  | b :: l, 0, h => by simp at h; subst h; simp
  | b :: l, i + 1, h => by
    have := count_set l i (by simpa using h)
    rw [List.set_cons_succ, List.count_cons, List.count_cons]; omega
section
variable {l : List Oper} {S : List (List (Nat × Option Nat))} {T : World → World → Prop} {Ph : Array Bool → Act → World → Prop} {Rel : List (Value → World → Prop)} {Q : Exit → Act → World → Prop} {a0 : Act} {w0 : World}
theorem plain_op {n : Nat} : ∀ (l : List Oper) (k : Nat) (ds : List (Option Nat)), plainFrom n k ds l = true → ∀ (i : Nat) (o : Oper), l[i]? = some o →
    (∀ e ∈ o.after, Region.binds .any e = true → e.on < k + i) ∧ (∀ d, o.dst = some d → d < n) ∧ (∀ d, o.dst = some d → some d ∉ ds) ∧ (∀ d j oj, o.dst = some d → l[j]? = some oj → oj.dst = some d → j = i)
  | [], _, _, _, _, _, h => by simp at h
  | o :: l, k, ds, hp, i, o', ho => by
    simp only [plainFrom, Bool.and_eq_true] at hp
    obtain ⟨⟨⟨h1, _⟩, h3⟩, h4⟩ := hp
    have ih := plain_op l (k + 1) (o.dst :: ds) h4
    have hfirst : ∀ d, o.dst = some d → d < n ∧ some d ∉ ds := fun d hd => by
      rw [hd] at h3
      simp only [Bool.and_eq_true, decide_eq_true_eq] at h3
      refine ⟨h3.1, fun hin => ?_⟩
      have := List.all_eq_true.1 h3.2 _ hin
      simp at this
    cases i with
    | zero =>
      simp at ho
      subst ho
      refine ⟨fun e he hb => ?_, fun d hd => (hfirst d hd).1, fun d hd => (hfirst d hd).2, fun d j oj hd hj hdj => ?_⟩
      · have := List.all_eq_true.1 h1 e (by simpa using he)
        simpa [hb] using this
      · cases j with
        | zero => rfl
        | succ j =>
          have := (ih j oj (by simpa using hj)).2.2.1 d hdj
          rw [hd] at this
          exact absurd (List.mem_cons_self ..) this
    | succ i =>
      obtain ⟨a1, a2, a3, a4⟩ := ih i o' (by simpa using ho)
      refine ⟨fun e he hb => by have := a1 e he hb; omega, a2, fun d hd hin => a3 d hd (List.mem_cons_of_mem _ hin), fun d j oj hd hj hdj => ?_⟩
      cases j with
      | zero =>
        simp at hj
        subst hj
        exact absurd (by rw [hdj]; exact List.mem_cons_self ..) (a3 d hd)
      | succ j => rw [a4 d j oj hd (by simpa using hj) hdj]
theorem relB_op (hB : plainFrom a0.tmps.size 0 [] l = true) {i : Nat} {o : Oper} (ho : l[i]? = some o) :
    (∀ e ∈ o.after, Region.binds .any e = true → e.on < i) ∧ (∀ d, o.dst = some d → d < a0.tmps.size) ∧ (∀ d j oj, o.dst = some d → l[j]? = some oj → oj.dst = some d → j = i) := by
  obtain ⟨h1, h2, _, h4⟩ := plain_op l 0 [] hB i o ho
  exact ⟨fun e he hb => by have := h1 e he hb; omega, h2, h4⟩
theorem src_of_inv {M : List Nat} (hM : ∀ k j, (M.getD k 0).testBit j = true → Bef l k j) {L : Array Bool} {a : Act} {w : World} (inv : RInv l T Ph Rel a0 w0 L a w) {i : Nat} {o : Oper} (ho : l[i]? = some o) (hun : L.getD i false = false) (ha : ∀ e ∈ o.after, Region.binds .any e = true → L.getD e.on false = true) :
    ∀ (row r : List (Nat × Option Nat)), srcRow M l i o row = true → (∀ p ∈ r, p ∈ row) → SrcL Rel a0 a w r
  | _, [], _, _ => trivial
  | row, (k, s) :: r, hs, hin => by
    have ih := src_of_inv hM inv ho hun ha row r hs fun p hp => hin p (List.mem_cons_of_mem _ hp)
    have hp := hin (k, s) (List.mem_cons_self ..)
    simp only [srcRow, Bool.and_eq_true, List.all_eq_true] at hs
    have h := hs.2 _ hp
    cases s with
    | none =>
      refine ⟨inv.old k fun j oj hj hd => ?_, ih⟩
      simp only [List.all_eq_true, List.mem_range] at h
      have hj' : j < l.length := (List.getElem?_eq_some_iff.1 hj).1
      have h2 := h j hj'
      rw [hj] at h2
      simp only [hd, beq_self_eq_true, Bool.not_true, Bool.false_or, Bool.or_eq_true, beq_iff_eq] at h2
      rcases h2 with rfl | h2
      · exact hun
      · cases hL : L.getD j false with
        | false => rfl
        | true =>
          have := bef_listed inv.clo (hM _ _ h2) (fun o' ho' => inv.clo j o' ho' hL)
          rw [hun] at this; cases this
    | some j =>
      refine ⟨?_, ih⟩
      simp only [Bool.and_eq_true] at h
      cases hj : l[j]? with
      | none => rw [hj] at h; cases h.1
      | some oj =>
        rw [hj] at h
        exact inv.rel j oj k hj (by simpa using h.1) (bef_listed inv.clo (hM _ _ h.2) (fun o' ho' => by rw [ho] at ho'; injection ho' with ho'; subst ho'; exact ha))
theorem inv_step {L : Array Bool} {a : Act} {w : World} (hB : plainFrom a0.tmps.size 0 [] l = true) (hmono : ∀ R ∈ Rel, ∀ v w w', T w w' → R v w → R v w') (htr : ∀ a b c, T a b → T b c → T a c)
    (inv : RInv l T Ph Rel a0 w0 L a w) {i : Nat} {o : Oper} (ho : l[i]? = some o) (ha : ∀ e ∈ o.after, Region.binds .any e = true → L.getD e.on false = true)
    {a' : Act} {w' : World} (hl : Left T Ph (Rel.getD i anyv) i o L a w a' w') : RInv l T Ph Rel a0 w0 (L.setIfInBounds i true) a' w' := by
  obtain ⟨v, rfl, hR, hT, hPh⟩ := hl
  have hi : i < L.size := by rw [inv.siz]; have := (List.getElem?_eq_some_iff.1 ho).1; simpa using this
  have ho' : l[i]? = some o := ho
  obtain ⟨_, hdl, hdu⟩ := relB_op hB ho
  have hm : ∀ j v, (Rel.getD j anyv) v w → (Rel.getD j anyv) v w' := fun j v h => by
    rw [List.getD_eq_getElem?_getD] at h ⊢
    cases hj : Rel[j]? with
    | none => trivial
    | some R => rw [hj] at h; exact hmono R (List.mem_of_getElem? hj) v w w' hT h
  refine ⟨?_, by simp [inv.siz], ?_, ?_, ?_, ?_, htr _ _ _ inv.base hT, hPh⟩
  · intro j oj hj hL e he hb
    rw [setL L i _ hi] at hL ⊢
    by_cases hji : j = i
    · subst hji
      rw [ho'] at hj; injection hj with hj; subst hj
      by_cases h : e.on = j
      · rw [if_pos h]
      · rw [if_neg h]; exact ha e he hb
    · rw [if_neg hji] at hL
      by_cases h : e.on = i
      · rw [if_pos h]
      · rw [if_neg h]; exact inv.clo j oj hj hL e he hb
  · intro j oj d hj hd hL
    rw [setL L i _ hi] at hL
    by_cases hji : j = i
    · subst hji
      rw [ho'] at hj; injection hj with hj; subst hj
      rw [hd, put_getD a d d v (by rw [inv.tsz]; exact hdl d hd), if_pos rfl]
      exact hR
    · rw [if_neg hji] at hL
      have h1 := hm j _ (inv.rel j oj d hj hd hL)
      cases hod : o.dst with
      | none => exact h1
      | some d0 =>
        rw [put_getD a d0 d v (by rw [inv.tsz]; exact hdl d0 hod), if_neg (fun e => hji (hdu d0 j oj hod hj (by rw [hd, e])))]
        exact h1
  · intro k hk
    have h1 := inv.old k fun j oj hj hd => by
      have := hk j oj hj hd
      rw [setL L i _ hi] at this
      by_cases hji : j = i
      · rw [if_pos hji] at this; cases this
      · rwa [if_neg hji] at this
    cases hod : o.dst with
    | none => exact h1
    | some d0 =>
      rw [put_getD a d0 k v (by rw [inv.tsz]; exact hdl d0 hod), if_neg ?_]
      · exact h1
      · rintro rfl
        have := hk i o ho' hod
        rw [setL L i _ hi, if_pos rfl] at this; cases this
  · cases o.dst <;> simp [Act.put, inv.tsz]
  · cases o.dst <;> exact inv.dfr
/-- The act that the region leaves, put together. -/
def putAll (b : Act) : List Oper → Act → Act
  | [], a => a
  | o :: l, a => putAll b l (match o.dst with | none => a | some d => a.put (some d) (b.tmps.getD d undef))
theorem putAll_size (b : Act) : ∀ (l : List Oper) (a : Act), (putAll b l a).tmps.size = a.tmps.size
  | [], _ => rfl
  | o :: l, a => by rw [putAll, putAll_size b l]; cases o.dst <;> simp [Act.put]
theorem putAll_defers (b : Act) : ∀ (l : List Oper) (a : Act), (putAll b l a).defers = a.defers
  | [], _ => rfl
  | o :: l, a => by rw [putAll, putAll_defers b l]; cases o.dst <;> rfl
theorem putAll_in (b : Act) (k : Nat) : ∀ (l : List Oper) (a : Act), (∀ o ∈ l, ∀ d, o.dst = some d → d < a.tmps.size) → (a.tmps.getD k undef = b.tmps.getD k undef ∨ ∃ o ∈ l, o.dst = some k) → (putAll b l a).tmps.getD k undef = b.tmps.getD k undef
  | [], a, _, h => by
    rcases h with h | ⟨o, ho, _⟩
    · exact h
    · cases ho
  | o :: l, a, hd, h => by
    rw [putAll]
    cases hod : o.dst with
    | none =>
      refine putAll_in b k l a (fun o' ho' => hd o' (List.mem_cons_of_mem _ ho')) ?_
      rcases h with h | ⟨o', ho', hk⟩
      · exact .inl h
      · rcases List.mem_cons.1 ho' with rfl | ho'
        · rw [hod] at hk; cases hk
        · exact .inr ⟨o', ho', hk⟩
    | some d =>
      have hdl := hd o (List.mem_cons_self ..) d hod
      refine putAll_in b k l _ (fun o' ho' d' hd' => by simpa [Act.put] using hd o' (List.mem_cons_of_mem _ ho') d' hd') ?_
      rw [put_getD a d k _ hdl]
      by_cases hkd : k = d
      · subst hkd; exact .inl (if_pos rfl)
      · rw [if_neg hkd]
        rcases h with h | ⟨o', ho', hk⟩
        · exact .inl h
        · rcases List.mem_cons.1 ho' with rfl | ho'
          · rw [hod] at hk; injection hk with hk; exact absurd hk.symm hkd
          · exact .inr ⟨o', ho', hk⟩
theorem relEnd_put {w : World} {K : Act → Prop} (b : Act) : ∀ (l : List Oper) (i : Nat) (a : Act), (∀ j o d, l[j]? = some o → o.dst = some d → (Rel.getD (i + j) anyv) (b.tmps.getD d undef) w) → relEnd Rel w K i l a → K (putAll b l a)
  | [], _, _, _, h => h
  | o :: l, i, a, hr, h => by
    rw [putAll]
    rw [relEnd] at h
    have ih := fun a' => relEnd_put (w := w) (K := K) b l (i + 1) a' fun j o' d hj hd => by
      have := hr (j + 1) o' d (by simpa using hj) hd
      rwa [show i + (j + 1) = i + 1 + j from by omega] at this
    cases hod : o.dst with
    | none => rw [hod] at h; exact ih _ h
    | some d => rw [hod] at h; exact ih _ (h _ (hr 0 o d rfl hod))
theorem relEnd_mono {w : World} {K K' : Act → Prop} (h : ∀ a, K a → K' a) : ∀ (l : List Oper) (i : Nat) (a : Act), relEnd Rel w K i l a → relEnd Rel w K' i l a
  | [], _, _, hh => h _ hh
  | o :: l, i, a, hh => by
    rw [relEnd] at hh ⊢
    cases hod : o.dst with
    | none => rw [hod] at hh; exact relEnd_mono h l (i + 1) a hh
    | some d => rw [hod] at hh; exact fun v hv => relEnd_mono h l (i + 1) _ (hh v hv)
theorem rel_done {L : Array Bool} {a : Act} {w : World} (hB : plainFrom a0.tmps.size 0 [] l = true) (inv : RInv l T Ph Rel a0 w0 L a w) (hall : ∀ i, i < l.length → L.getD i false = true)
    (hend : relEnd Rel w (fun a => Ph L a w → Q .normal a w) 0 l a0) : Q .normal a w := by
  have h1 := relEnd_put (w := w) (K := fun a => Ph L a w → Q .normal a w) a l 0 a0 (fun j o d hj hd => by
    rw [Nat.zero_add]
    exact inv.rel j o d hj hd (hall j (List.getElem?_eq_some_iff.1 hj).1)) hend
  have e : putAll a l a0 = a := by
    have hs := putAll_size a l a0
    have ht : (putAll a l a0).tmps = a.tmps := by
      apply Array.ext (by rw [hs, inv.tsz])
      intro k hk1 hk2
      have := putAll_in a k l a0 (fun o ho d hd => by
        obtain ⟨j, hj⟩ := List.getElem?_of_mem ho
        exact (relB_op hB hj).2.1 d hd) (by
          by_cases hin : ∃ o ∈ l, o.dst = some k
          · exact .inr hin
          · exact .inl (inv.old k fun i o hi hd => absurd ⟨o, List.mem_of_getElem? hi, hd⟩ hin).symm)
      simpa [hk1, hk2] using this
    have hd := putAll_defers a l a0
    rw [← inv.dfr] at hd
    cases hx : putAll a l a0
    cases a
    rw [hx] at ht hd
    simp at ht hd
    rw [ht, hd]
  rw [e] at h1
  exact h1 inv.ph
theorem yielded_of {ops : Array Oper} {g d : Nat} {b : Bool} {a : Act} (h1 : (ops[g]?).bind (·.dst) = some d) (h2 : a.tmps.getD d undef = .bool b) : yielded ops a.tmps g = some b := by
  unfold yielded
  rw [h1]
  have h3 : a.tmps[d]? = some (.bool b) := by
    rw [Array.getD_eq_getD_getElem?] at h2
    cases h : a.tmps[d]? with
    | none => rw [h] at h2; simp [undef] at h2
    | some v => rw [h] at h2; simp at h2; rw [h2]
  simp [h3]
theorem wpAny_rel (hB : relB a0.tmps.size l S = true) (htr : ∀ a b c, T a b → T b c → T a c) (hmono : ∀ R ∈ Rel, ∀ v w w', T w w' → R v w → R v w')
    (hobs : Obs P l T Ph Rel Q a0 w0 0 l S) (hend : ∀ L w, T w0 w → (∀ i, i < l.length → L.getD i false = true) → relEnd Rel w (fun a => Ph L a w → Q .normal a w) 0 l a0) :
    ∀ (fuel : Nat) (L : Array Bool) (a : Act) (w : World), L.toList.count false ≤ fuel → RInv l T Ph Rel a0 w0 L a w → wpAny P .any l.toArray Q fuel L a w := by
  simp only [relB, Bool.and_eq_true] at hB
  obtain ⟨hB0, hB1⟩ := hB
  obtain ⟨M, hM, hS⟩ := withMasks_sound (ops := l) l [] (fun j => by simp) (fun k j h => by simp at h) hB1
  have hready : ∀ (L : Array Bool) (a : Act) (w : World), RInv l T Ph Rel a0 w0 L a w → Region.ready .any l.toArray L = [] → ∀ i, i < l.length → L.getD i false = true := by
    intro L a w inv hr
    intro i
    induction i using Nat.strongRecOn with
    | ind i ih =>
      intro hi
      cases hL : L.getD i false with
      | true => rfl
      | false =>
        exfalso
        have hm : i ∈ Region.ready .any l.toArray L := by
          unfold Region.ready
          rw [List.mem_filter]
          have hiL : i < L.size := by rw [inv.siz]; exact hi
          refine ⟨by simpa using hi, ?_⟩
          have h1 : L.getD i true = false := by
            rw [Array.getD_eq_getD_getElem?, Array.getElem?_eq_getElem hiL] at hL ⊢
            exact hL
          rw [h1]
          have ho : l.toArray[i]? = some l[i] := by simp [hi]
          rw [ho]
          simp only [Bool.not_false, Bool.true_and, Option.map_some, Option.getD_some]
          rw [Array.all_eq_true_iff_forall_mem]
          intro e he
          by_cases hb : Region.binds .any e = true
          · have h2 := (relB_op hB0 (List.getElem?_eq_getElem hi)).1 e he hb
            rw [ih e.on h2 (by omega)]
            simp
          · simp [hb]
        rw [hr] at hm
        cases hm
  intro fuel
  induction fuel with
  | zero =>
    intro L a w hc inv
    have hall : ∀ i, i < l.length → L.getD i false = true := by
      intro i hi
      have hiL : i < L.size := by rw [inv.siz]; exact hi
      cases hL : L.getD i false with
      | true => rfl
      | false =>
        exfalso
        have : false ∈ L.toList := by
          rw [Array.getD_eq_getD_getElem?, Array.getElem?_eq_getElem hiL] at hL
          have h2 : L[i] = false := hL
          rw [← h2]
          exact Array.getElem_mem_toList hiL
        have := List.count_pos_iff.2 this
        omega
    refine ⟨?_, rel_done hB0 inv hall (hend L w inv.base hall)⟩
    unfold Region.ready
    rw [List.filter_eq_nil_iff]
    intro i hi
    have hi' : i < l.length := by simpa using hi
    have h1 : L.getD i true = true := by
      have := hall i hi'
      have hiL : i < L.size := by rw [inv.siz]; exact hi'
      rw [Array.getD_eq_getD_getElem?, Array.getElem?_eq_getElem hiL] at this ⊢
      exact this
    rw [h1]
    simp
  | succ fuel ih =>
    intro L a w hc inv
    refine ⟨fun hr => rel_done hB0 inv (hready L a w inv hr) (hend L w inv.base (hready L a w inv hr)), fun i hi => ?_⟩
    obtain ⟨hun, o, ho, ha⟩ := mem_ready.1 hi
    have ho' : l[i]? = some o := by simpa using ho
    have hiL : i < L.size := by
      rw [inv.siz]; exact (List.getElem?_eq_some_iff.1 ho').1
    have hun' : L.getD i false = false := by
      rw [Array.getD_eq_getD_getElem?, Array.getElem?_eq_getElem hiL] at hun ⊢
      exact hun
    have ha' : ∀ e ∈ o.after, Region.binds .any e = true → L.getD e.on false = true := ha
    have hcnt : (L.setIfInBounds i true).toList.count false ≤ fuel := by
      have h2 : L.toList[i]? = some false := by
        rw [Array.getD_eq_getD_getElem?] at hun'
        rw [Array.getElem?_toList]
        rw [Array.getElem?_eq_getElem hiL] at hun' ⊢
        have : L[i] = false := hun'
        rw [this]
      have := count_set L.toList i h2
      rw [Array.toList_setIfInBounds]
      omega
    obtain ⟨r, hr, hob⟩ := obs_get l S 0 i o hS hobs ho'
    rw [Nat.zero_add] at hr hob
    have hsrc := src_of_inv hM inv ho' hun' ha' r r hr fun p hp => hp
    have hseen : Seen l i L := ⟨fun j hj => bef_listed inv.clo hj (fun o' h' => by rw [ho'] at h'; injection h' with h'; subst h'; exact ha'), fun j hj => by
      cases hL : L.getD j false with
      | false => rfl
      | true =>
        have := bef_listed inv.clo hj (fun o' h' => inv.clo j o' h' hL)
        rw [hun'] at this; exact Bool.noConfusion this, hun'⟩
    have hob := hob L a w inv.base inv.ph hseen hsrc
    have hnext : ∀ a' w', Left T Ph (Rel.getD i anyv) i o L a w a' w' → wpAny P .any l.toArray Q fuel (L.setIfInBounds i true) a' w' := fun a' w' hl =>
      ih _ a' w' hcnt (inv_step hB0 hmono htr inv ho' ha' hl)
    unfold wpOp
    simp only [ho]
    cases hg : o.guard with
    | none =>
      rw [hg] at hob
      rw [if_pos (show Region.wanted o (yielded l.toArray a.tmps) = true by simp [Region.wanted, hg])]
      exact .inl (Oper.wp_mono hnext hob)
    | some gw =>
      obtain ⟨g, want⟩ := gw
      rw [hg] at hob
      obtain ⟨b, d, h1, h2, h3⟩ := hob
      have hy := yielded_of (ops := l.toArray) (by simpa using h1) h2
      by_cases hbw : b = want
      · subst hbw
        rw [if_pos rfl] at h3
        rw [if_pos (show Region.wanted o (yielded l.toArray a.tmps) = true by simp [Region.wanted, hg, hy])]
        exact .inl (Oper.wp_mono hnext h3)
      · rw [if_neg hbw] at h3
        rw [if_neg (show ¬ Region.wanted o (yielded l.toArray a.tmps) = true by simp [Region.wanted, hg, hy, hbw])]
        exact hnext _ _ h3
/-- Where only the head has come up. -/
def headL (n m : Nat) : Array Bool := (List.replicate n true ++ List.replicate m false).toArray
theorem rel_done_tail {K : Act → Prop} {n : Nat} {L : Array Bool} {a : Act} {w : World} (hB : plainFrom a0.tmps.size 0 [] l = true) (inv : RInv l T Ph Rel a0 w0 L a w) (hall : ∀ i, i < n → i < l.length → L.getD i false = true) (htl : ∀ i, n ≤ i → L.getD i false = false)
    (hend : relEnd Rel w (fun a => Ph L a w → K a) 0 (l.take n) a0) : K a := by
  have hin : ∀ (j : Nat) (o : Oper), (l.take n)[j]? = some o → l[j]? = some o ∧ j < n := fun j o hj => by
    have hlt := (List.getElem?_eq_some_iff.1 hj).1
    rw [List.length_take] at hlt
    rw [List.getElem?_take_of_lt (by omega)] at hj
    exact ⟨hj, by omega⟩
  have h1 := relEnd_put (w := w) (K := fun a => Ph L a w → K a) a (l.take n) 0 a0 (fun j o d hj hd => by
    rw [Nat.zero_add]
    obtain ⟨hj1, hj2⟩ := hin j o hj
    exact inv.rel j o d hj1 hd (hall j hj2 (List.getElem?_eq_some_iff.1 hj1).1)) hend
  have e : putAll a (l.take n) a0 = a := by
    have hs := putAll_size a (l.take n) a0
    have ht : (putAll a (l.take n) a0).tmps = a.tmps := by
      apply Array.ext (by rw [hs, inv.tsz])
      intro k hk1 hk2
      have := putAll_in a k (l.take n) a0 (fun o ho d hd => by
        obtain ⟨j, hj⟩ := List.getElem?_of_mem ho
        exact (relB_op hB (hin j o hj).1).2.1 d hd) (by
          by_cases hx : ∃ o ∈ l.take n, o.dst = some k
          · exact .inr hx
          · refine .inl (inv.old k fun i o hi hd => ?_).symm
            rcases Nat.lt_or_ge i n with h | h
            · exact absurd ⟨o, List.mem_of_getElem? (i := i) (by rw [List.getElem?_take_of_lt h]; exact hi), hd⟩ hx
            · exact htl i h)
      simpa [hk1, hk2] using this
    have hd := putAll_defers a (l.take n) a0
    rw [← inv.dfr] at hd
    cases hx : putAll a (l.take n) a0
    cases a
    rw [hx] at ht hd
    simp at ht hd
    rw [ht, hd]
  rw [e] at h1
  exact h1 inv.ph
/-- The shape of a region with a head and a chain behind it. -/
def relTB (m n : Nat) (l : List Oper) (S : List (List (Nat × Option Nat))) : Bool :=
  plainFrom m 0 [] l && decide (n ≤ l.length) && Region.seqB .any l.toArray (l.drop n).length n (headL n (l.length - n)) &&
  withMasks l [] fun M => srcFrom M l 0 (l.take n) S && (List.range l.length).all fun i => decide (i < n) || (List.range n).all fun j => (M.getD i 0).testBit j
theorem headL_getD (n m i : Nat) : (headL n m).getD i false = decide (i < n) := by
  unfold headL
  rw [Array.getD_eq_getD_getElem?, List.getElem?_toArray]
  by_cases h : i < n
  · rw [List.getElem?_append_left (by simpa using h)]; simp [h]
  · rw [List.getElem?_append_right (by simpa using h)]
    by_cases h2 : i - n < m
    · simp [h, h2]
    · simp [h, h2]
theorem wpAny_rel_tail {n : Nat} (hB : relTB a0.tmps.size n l S = true) (htr : ∀ a b c, T a b → T b c → T a c) (hmono : ∀ R ∈ Rel, ∀ v w w', T w w' → R v w → R v w')
    (hobs : Obs P l T Ph Rel Q a0 w0 0 (l.take n) S) (hend : ∀ w, T w0 w → relEnd Rel w (fun a => Ph (headL n (l.length - n)) a w → wpList P l.toArray Q (l.drop n) a w) 0 (l.take n) a0) :
    ∀ (fuel : Nat) (L : Array Bool) (a : Act) (w : World), L.toList.count false = fuel → L.size = l.length → (∀ i, n ≤ i → L.getD i false = false) → RInv l T Ph Rel a0 w0 L a w → wpAny P .any l.toArray Q fuel L a w := by
  simp only [relTB, Bool.and_eq_true, decide_eq_true_eq] at hB
  obtain ⟨⟨⟨hB0, hnl⟩, hseq⟩, hB1⟩ := hB
  obtain ⟨M, hM, hS⟩ := withMasks_sound (ops := l) l [] (fun j => by simp) (fun k j h => by simp at h) hB1
  simp only [Bool.and_eq_true, List.all_eq_true, List.mem_range, Bool.or_eq_true, decide_eq_true_eq] at hS
  obtain ⟨hS, hsink⟩ := hS
  intro fuel
  induction fuel with
  | zero =>
    intro L a w hc hsz htl inv
    have hn : n = l.length := by
      rcases Nat.lt_or_ge n l.length with h | h
      · exfalso
        have h2 := htl n (Nat.le_refl _)
        have hiL : n < L.size := by omega
        rw [Array.getD_eq_getD_getElem?, Array.getElem?_eq_getElem hiL] at h2
        have h3 : L[n] = false := h2
        have : false ∈ L.toList := by rw [← h3]; exact Array.getElem_mem_toList hiL
        have := List.count_pos_iff.2 this
        omega
      · omega
    have hall : ∀ i, i < n → i < l.length → L.getD i false = true := by
      intro i _ hi
      have hiL : i < L.size := by omega
      cases hL : L.getD i false with
      | true => rfl
      | false =>
        exfalso
        rw [Array.getD_eq_getD_getElem?, Array.getElem?_eq_getElem hiL] at hL
        have h2 : L[i] = false := hL
        have : false ∈ L.toList := by rw [← h2]; exact Array.getElem_mem_toList hiL
        have := List.count_pos_iff.2 this
        omega
    have hLe : L = headL n (l.length - n) := by
      apply Array.ext
      · simp [headL]; omega
      · intro i h1 h2
        have e1 := hall i (by omega) (by omega)
        have e2 := headL_getD n (l.length - n) i
        rw [Array.getD_eq_getD_getElem?, Array.getElem?_eq_getElem h1] at e1
        rw [Array.getD_eq_getD_getElem?, Array.getElem?_eq_getElem h2, decide_eq_true (show i < n by omega)] at e2
        exact (show L[i] = true from e1).trans (show (headL n (l.length - n))[i] = true from e2).symm
    have hdone := rel_done_tail (K := fun a => wpList P l.toArray Q (l.drop n) a w) hB0 inv hall htl (by rw [hLe]; exact hend w inv.base)
    have hd0 : l.drop n = [] := by rw [List.drop_of_length_le (by omega)]
    have h1 := wpAny_of_seq (md := .any) (ops := l.toArray) (Q' := Q) (l.drop n) n L a w (fun j => by simp [List.getElem?_drop]) (by rw [hLe]; exact hseq) hdone
    rwa [hd0] at h1
  | succ fuel ih =>
    intro L a w hc hsz htl inv
    by_cases hall : ∀ i, i < n → i < l.length → L.getD i false = true
    · have hLe : L = headL n (l.length - n) := by
        apply Array.ext
        · simp [headL]; omega
        · intro i h1 h2
          have e2 := headL_getD n (l.length - n) i
          rw [Array.getD_eq_getD_getElem?, Array.getElem?_eq_getElem h2] at e2
          have e2' : (headL n (l.length - n))[i] = decide (i < n) := e2
          rw [e2']
          by_cases hi : i < n
          · have e1 := hall i hi (by omega)
            rw [Array.getD_eq_getD_getElem?, Array.getElem?_eq_getElem h1] at e1
            rw [decide_eq_true hi]; exact e1
          · have e1 := htl i (by omega)
            rw [Array.getD_eq_getD_getElem?, Array.getElem?_eq_getElem h1] at e1
            rw [decide_eq_false hi]; exact e1
      have hdone := rel_done_tail (K := fun a => wpList P l.toArray Q (l.drop n) a w) hB0 inv hall htl (by rw [hLe]; exact hend w inv.base)
      have hcnt : (l.drop n).length = fuel + 1 := by
        rw [← hc, hLe]
        simp [headL, List.count_append, List.count_replicate]
      have := wpAny_of_seq (md := .any) (ops := l.toArray) (Q' := Q) (l.drop n) n L a w (fun j => by simp [List.getElem?_drop]) (by rw [hLe]; exact hseq) hdone
      rwa [hcnt] at this
    · have hex : ∃ i, i < n ∧ i < l.length ∧ L.getD i false = false := by
        apply Classical.byContradiction
        intro hno
        exact hall fun i h1 h2 => by
          cases h : L.getD i false with
          | true => rfl
          | false => exact absurd ⟨i, h1, h2, h⟩ hno
      have hmem : ∀ i ∈ Region.ready .any l.toArray L, ∃ o, l[i]? = some o ∧ i < n ∧ L.getD i false = false ∧ ∀ e ∈ o.after, Region.binds .any e = true → L.getD e.on false = true := by
        intro i hi
        obtain ⟨hun, o, ho, ha⟩ := mem_ready.1 hi
        have ho' : l[i]? = some o := by simpa using ho
        have hil : i < l.length := (List.getElem?_eq_some_iff.1 ho').1
        have ha' : ∀ e ∈ o.after, Region.binds .any e = true → L.getD e.on false = true := ha
        have hun' : L.getD i false = false := by
          rw [Array.getD_eq_getD_getElem?, Array.getElem?_eq_getElem (by omega)] at hun ⊢
          exact hun
        refine ⟨o, ho', ?_, hun', ha'⟩
        rcases Nat.lt_or_ge i n with h | h
        · exact h
        · exfalso
          obtain ⟨j, hj1, hj2, hj3⟩ := hex
          have hb := (hsink i hil).resolve_left (by omega) j hj1
          have := bef_listed inv.clo (hM _ _ hb) (fun o' h' => by rw [ho'] at h'; injection h' with h'; subst h'; exact ha')
          rw [hj3] at this; cases this
      refine ⟨fun hr => ?_, fun i hi => ?_⟩
      · exfalso
        have hstuck : ∀ i, i < l.length → L.getD i false = true := by
          intro i
          induction i using Nat.strongRecOn with
          | ind i ihi =>
            intro hi
            cases hL : L.getD i false with
            | true => rfl
            | false =>
              exfalso
              have hm : i ∈ Region.ready .any l.toArray L := by
                unfold Region.ready
                rw [List.mem_filter]
                have hiL : i < L.size := by omega
                refine ⟨by simpa using hi, ?_⟩
                have h1 : L.getD i true = false := by
                  rw [Array.getD_eq_getD_getElem?, Array.getElem?_eq_getElem hiL] at hL ⊢
                  exact hL
                rw [h1]
                have ho : l.toArray[i]? = some l[i] := by simp [hi]
                rw [ho]
                simp only [Bool.not_false, Bool.true_and, Option.map_some, Option.getD_some]
                rw [Array.all_eq_true_iff_forall_mem]
                intro e he
                by_cases hb : Region.binds .any e = true
                · have h2 := (relB_op hB0 (List.getElem?_eq_getElem hi)).1 e he hb
                  rw [ihi e.on h2 (by omega)]
                  simp
                · simp [hb]
              rw [hr] at hm
              cases hm
        obtain ⟨j, _, hj2, hj3⟩ := hex
        rw [hstuck j hj2] at hj3; cases hj3
      · obtain ⟨o, ho', hin, hun', ha'⟩ := hmem i hi
        have hiL : i < L.size := by have := (List.getElem?_eq_some_iff.1 ho').1; omega
        have ho : l.toArray[i]? = some o := by simpa using ho'
        have hcnt : (L.setIfInBounds i true).toList.count false = fuel := by
          have h2 : L.toList[i]? = some false := by
            rw [Array.getD_eq_getD_getElem?] at hun'
            rw [Array.getElem?_toList]
            rw [Array.getElem?_eq_getElem hiL] at hun' ⊢
            have : L[i] = false := hun'
            rw [this]
          have := count_set L.toList i h2
          rw [Array.toList_setIfInBounds]
          omega
        obtain ⟨r, hr, hob⟩ := obs_get (l.take n) S 0 i o hS hobs (by rw [List.getElem?_take_of_lt hin]; exact ho')
        rw [Nat.zero_add] at hr hob
        have hsrc := src_of_inv hM inv ho' hun' ha' r r hr fun p hp => hp
        have hseen : Seen l i L := ⟨fun j hj => bef_listed inv.clo hj (fun o' h' => by rw [ho'] at h'; injection h' with h'; subst h'; exact ha'), fun j hj => by
          cases hL : L.getD j false with
          | false => rfl
          | true =>
            have := bef_listed inv.clo hj (fun o' h' => inv.clo j o' h' hL)
            rw [hun'] at this; exact Bool.noConfusion this, hun'⟩
        have hob := hob L a w inv.base inv.ph hseen hsrc
        have hnext : ∀ a' w', Left T Ph (Rel.getD i anyv) i o L a w a' w' → wpAny P .any l.toArray Q fuel (L.setIfInBounds i true) a' w' := fun a' w' hl =>
          ih _ a' w' hcnt (by simpa using hsz) (fun j hj => by rw [setL L i j hiL, if_neg (by omega)]; exact htl j hj) (inv_step hB0 hmono htr inv ho' ha' hl)
        unfold wpOp
        simp only [ho]
        cases hg : o.guard with
        | none =>
          rw [hg] at hob
          rw [if_pos (show Region.wanted o (yielded l.toArray a.tmps) = true by simp [Region.wanted, hg])]
          exact .inl (Oper.wp_mono hnext hob)
        | some gw =>
          obtain ⟨g, want⟩ := gw
          rw [hg] at hob
          obtain ⟨b, d, h1, h2, h3⟩ := hob
          have hy := yielded_of (ops := l.toArray) (by simpa using h1) h2
          by_cases hbw : b = want
          · subst hbw
            rw [if_pos rfl] at h3
            rw [if_pos (show Region.wanted o (yielded l.toArray a.tmps) = true by simp [Region.wanted, hg, hy])]
            exact .inl (Oper.wp_mono hnext h3)
          · rw [if_neg hbw] at h3
            rw [if_neg (show ¬ Region.wanted o (yielded l.toArray a.tmps) = true by simp [Region.wanted, hg, hy, hbw])]
            exact hnext _ _ h3
end
/-- THE LAW. -/
theorem wp_region_rel {id : Nat} {Q : Exit → Act → World → Prop} {a : Act} {w : World} {l : List Oper} (T : World → World → Prop) (Ph : Array Bool → Act → World → Prop) (S : List (List (Nat × Option Nat))) (Rel : List (Value → World → Prop))
    (hm : P.follows .mixedOrders = true) (hB : relB a.tmps.size l S = true) (hrefl : ∀ a, T a a) (htr : ∀ a b c, T a b → T b c → T a c) (hmono : ∀ R ∈ Rel, ∀ v w w', T w w' → R v w → R v w')
    (h0 : Ph (Array.replicate l.length false) a w.drew) (hobs : Obs P l T Ph Rel Q a w.drew 0 l S)
    (hend : ∀ L w', T w.drew w' → (∀ i, i < l.length → L.getD i false = true) → relEnd Rel w' (fun a => Ph L a w' → Q .normal a w') 0 l a) : (Code.region id l.toArray true).wp P Q a w := by
  refine wp_region_any hm ?_
  have hsz : l.toArray.size = l.length := by simp
  rw [hsz]
  refine wpAny_rel hB htr hmono hobs hend _ _ a _ (by simp) ⟨?_, by simp, ?_, fun _ _ => rfl, rfl, rfl, hrefl _, h0⟩
  · intro i o _ hL
    by_cases h : i < l.length <;> simp [h] at hL
  · intro i o d _ _ hL
    by_cases h : i < l.length <;> simp [h] at hL
/-- What each relation says lasts. -/
def MonoAll (T : World → World → Prop) : List (Value → World → Prop) → Prop
  | [] => True
  | R :: r => (∀ v w w', T w w' → R v w → R v w') ∧ MonoAll T r
theorem MonoAll.all {T : World → World → Prop} : ∀ {l : List (Value → World → Prop)}, MonoAll T l → ∀ R ∈ l, ∀ v w w', T w w' → R v w → R v w'
  | [], _, _, h => by cases h
  | R :: r, hm, R', h => by
    rcases List.mem_cons.1 h with rfl | h
    · exact hm.1
    · exact MonoAll.all hm.2 R' h
/-- Of what was there nothing has changed. -/
def Stp (a w : World) : Prop := Below a.heap.size a w
theorem Stp.refl (a : World) : Stp a a := Below.refl _ _
theorem Stp.trans (a b c : World) (h : Stp a b) (k : Stp b c) : Stp a c := Below.trans h (Below.mono k h.size)
theorem Stp.alloc (a : World) (o : Obj) : Stp a (a.alloc o) := (Below.refl _ _).alloc (Nat.le_refl _) o
theorem Stp.drew (a : World) : Stp a a.drew := (Below.refl _ _).drew
theorem Stp.of {a b : World} (h : Below a.heap.size a b) : Stp a b := h
/-- The law where nothing that was there changes. -/
theorem wp_region_rel_below {id : Nat} {Q : Exit → Act → World → Prop} {a : Act} {w : World} {l : List Oper} (S : List (List (Nat × Option Nat))) (Rel : List (Value → World → Prop))
    (hm : P.follows .mixedOrders = true) (hB : relB a.tmps.size l S = true) (hmono : MonoAll Stp Rel) (hobs : Obs P l Stp (fun _ _ _ => True) Rel Q a w.drew 0 l S)
    (hend : ∀ w', Stp w w' → relEnd Rel w' (fun a => Q .normal a w') 0 l a) : (Code.region id l.toArray true).wp P Q a w :=
  wp_region_rel Stp (fun _ _ _ => True) S Rel hm hB Stp.refl Stp.trans hmono.all trivial hobs fun _ w' h _ => relEnd_mono (fun _ h _ => h) _ _ _ (hend w' (Stp.trans _ _ _ (Stp.drew w) h))
/-- The law with a chain behind the head. -/
theorem wp_region_rel_tail {id : Nat} {Q : Exit → Act → World → Prop} {a : Act} {w : World} {l : List Oper} (n : Nat) (T : World → World → Prop) (Ph : Array Bool → Act → World → Prop) (S : List (List (Nat × Option Nat))) (Rel : List (Value → World → Prop))
    (hm : P.follows .mixedOrders = true) (hB : relTB a.tmps.size n l S = true) (hrefl : ∀ a, T a a) (htr : ∀ a b c, T a b → T b c → T a c) (hmono : ∀ R ∈ Rel, ∀ v w w', T w w' → R v w → R v w')
    (h0 : Ph (Array.replicate l.length false) a w.drew) (hobs : Obs P l T Ph Rel Q a w.drew 0 (l.take n) S)
    (hend : ∀ w', T w.drew w' → relEnd Rel w' (fun a => Ph (headL n (l.length - n)) a w' → wpList P l.toArray Q (l.drop n) a w') 0 (l.take n) a) : (Code.region id l.toArray true).wp P Q a w := by
  refine wp_region_any hm ?_
  have hsz : l.toArray.size = l.length := by simp
  rw [hsz]
  refine wpAny_rel_tail hB htr hmono hobs hend _ _ a _ (by simp) (by simp) ?_ ⟨?_, by simp, ?_, fun _ _ => rfl, rfl, rfl, hrefl _, h0⟩
  · intro i _
    by_cases h : i < l.length <;> simp [h]
  · intro i o _ hL
    by_cases h : i < l.length <;> simp [h] at hL
  · intro i o d _ _ hL
    by_cases h : i < l.length <;> simp [h] at hL
theorem wp_region_rel_below_tail {id : Nat} {Q : Exit → Act → World → Prop} {a : Act} {w : World} {l : List Oper} (n : Nat) (S : List (List (Nat × Option Nat))) (Rel : List (Value → World → Prop))
    (hm : P.follows .mixedOrders = true) (hB : relTB a.tmps.size n l S = true) (hmono : MonoAll Stp Rel) (hobs : Obs P l Stp (fun _ _ _ => True) Rel Q a w.drew 0 (l.take n) S)
    (hend : ∀ w', Stp w w' → relEnd Rel w' (fun a => wpList P l.toArray Q (l.drop n) a w') 0 (l.take n) a) : (Code.region id l.toArray true).wp P Q a w :=
  wp_region_rel_tail n Stp (fun _ _ _ => True) S Rel hm hB Stp.refl Stp.trans hmono.all trivial hobs fun w' h => relEnd_mono (fun _ h _ => h) _ _ _ (hend w' (Stp.trans _ _ _ (Stp.drew w) h))
theorem left_intro {T : World → World → Prop} {Ph : Array Bool → Act → World → Prop} {R : Value → World → Prop} {i : Nat} {o : Oper} {L : Array Bool} {a : Act} {w : World} {v : Value} {w' : World} (hR : R v w') (hT : T w w') (hP : Ph (L.setIfInBounds i true) (a.put o.dst v) w') : Left T Ph R i o L a w (a.put o.dst v) w' := ⟨v, rfl, hR, hT, hP⟩
theorem getD_form {a : Array Value} {k : Nat} {v : Value} (h : a.getD k undef = v) : a[k]?.getD undef = v := by rw [← h]; simp
/-- A slice over a block that is known whole, wherever it lies. -/
def blkRow (n c : Nat) (cs : Array Value) (t : TypeId) : Value → World → Prop := fun v w => ∃ b, v = .slice (some ⟨b, 0, none⟩) n c ∧ Blk w b cs t
theorem mono_blkRow (n c : Nat) (cs : Array Value) (t : TypeId) : ∀ v w w', Stp w w' → blkRow n c cs t v w → blkRow n c cs t v w' := fun _ _ _ hs ⟨b, e, h⟩ => ⟨b, e, h.at_ hs⟩
theorem blkRow_new (w : World) (n c : Nat) (cs : Array Value) (t : TypeId) : blkRow n c cs t (.slice (some ⟨w.heap.size, 0, none⟩) n c) (w.alloc (.cells cs t)) := ⟨_, rfl, Blk.new w cs t⟩
/-- An operation on two whole values, as one step. -/
theorem wp_bin {o : Oper} {a : Act} {w : World} {Q : Exit → Act → World → Prop} {K : Act → World → Prop} (op : BinOp) (t t' : TypeId) (x y : Operand) (ho : o.op = .binOp op t x y t') (X Y : Array Value) (hx : a.eval x = .agg X) (hy : a.eval y = .agg Y)
    (hg : P.eqGuardType P.depth t = false) (v : Value) (hr : (binOp op t (.agg X) (.agg Y)).run P w = .ok v w) (hk : K (a.put o.dst v) w) : o.wp P a w K Q := by
  unfold Oper.wp execOp
  simp only [ho, hx, hy, Sem.run_bind, run_eqGuard_agg w op t x y X Y hg, hr, Result.andThen_ok, Sem.run_pure]
  exact hk
end
end Go.Proofs.Ytnfabofkfnmplaa
