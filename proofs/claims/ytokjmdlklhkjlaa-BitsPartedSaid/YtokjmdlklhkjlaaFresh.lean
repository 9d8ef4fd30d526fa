/- A region that draws its order, whose head only reads and calls AND MAKES NEW VARIABLES, and whose tail is a chain: one walk of the head, then the new variables at any addresses, then the tail. -/
import Derived.Test.YtokjmdlklhkjlaaKit
namespace Go.Proofs.Ytokjmdlklhkjlaa
open Go.RowKit Go.Sort

section
variable {P : Program} {ops : Array Oper}

/-- The class of worlds that the head's walk is over: grown from w, and F holds. -/
structure RegrownF (w : World) (F : World → Prop) where
  d : Nat
  os : Array Obj
  h : F (grow (redrawn w d) os)
def Pres (F : World → Prop) : Prop := ∀ w w', F w → Below w.heap.size w w' → F w'
def ClassF (w : World) (F : World → Prop) (w' : World) : Prop := ∃ p : RegrownF w F, w' = grow (redrawn w p.d) p.os
theorem classF_of {w w' : World} {F : World → Prop} (hb : Below w.heap.size w w') (hF : F w') : ClassF w F w' := by
  obtain ⟨p, rfl⟩ := regrown_of_below hb
  exact ⟨⟨p.d, p.os, hF⟩, rfl⟩
theorem classF_below {w w' : World} {F : World → Prop} (h : ClassF w F w') : Below w.heap.size w w' ∧ F w' := by
  obtain ⟨p, rfl⟩ := h
  exact ⟨below_regrown w p.d p.os, p.h⟩
/-- A callee's contract that ends in 'Below', met in a world of that class. -/
theorem calls_regrownF {f : FuncId} {args : Array Value} {w : World} {F : World → Prop} {v : Value} (hF : Pres F) (p : RegrownF w F)
    (h : ∀ W : World, Below w.heap.size w W → Calls P f args W fun e w' => e = .returned v ∧ Below W.heap.size W w') : Calls P f args (grow (redrawn w p.d) p.os) fun e w'' => e = .returned v ∧ ∃ p : RegrownF w F, w'' = grow (redrawn w p.d) p.os :=
  (h _ (below_regrown w p.d p.os)).mono fun _ _ ⟨he, hb⟩ => ⟨he, classF_of ((below_regrown w p.d p.os).trans ⟨hb.os, hb.tape, hb.output, hb.size, fun k hk => hb.block k (Nat.lt_of_lt_of_le hk (below_regrown w p.d p.os).size)⟩) (hF _ _ p.h hb)⟩
theorem heap_regrownF {w : World} {F : World → Prop} {g : Nat} {o : Obj} (h : w.heap[g]? = some o) (w' : World) (hw : ∃ p : RegrownF w F, w' = grow (redrawn w p.d) p.os) : w'.heap[g]? = some o := by
  obtain ⟨p, rfl⟩ := hw
  exact heap_regrown h _ ⟨⟨p.d, p.os⟩, rfl⟩

/-- From every world grown from w the operation yields v, and of what was there nothing has changed. -/
def Calm (P : Program) (w : World) (o : Oper) (a : Act) (v : Value) : Prop := ∀ w1, Below w.heap.size w w1 → o.quietAt P a (fun w' => Below w1.heap.size w1 w') w1 v
theorem Calm.of_same {w : World} {o : Oper} {a a' : Act} {v : Value} (h : Calm P w o a v) (he : execOp a'.eval o = execOp a.eval o) : Calm P w o a' v := by
  intro w1 h1
  have := h w1 h1
  unfold Oper.quietAt at *
  rwa [he]
theorem quietUpon_mono {C C' : World → Prop} {w : World} {v : Value} {r : Result Next} (h : ∀ w', C w' → C' w') (hq : Oper.quietUpon P C w v r) : Oper.quietUpon P C' w v r := by
  cases r with
  | ok n w' =>
    cases n with
    | enter f args => exact ⟨hq.1, hq.2.mono fun e w'' ⟨he, hc⟩ => ⟨he, h _ hc⟩⟩
    | value u => exact hq
    | skip => exact hq
    | _ => exact hq
  | halt x w' => exact hq

/-- The value that an operation leaves, read off the act at the head's end. -/
def valOf (b : Act) (o : Oper) : Value := match o.dst with | some d => b.tmps.getD d undef | none => undef
def wpFix (P : Program) (C : World → Prop) (b : Act) : List Oper → Act → Prop
  | [], a => a = b
  | o :: rest, a => (∀ w, C w → o.quietAt P a C w (valOf b o)) ∧ wpFix P C b rest (a.put o.dst (valOf b o))
def wpCalm (P : Program) (w : World) (b : Act) : List Oper → Act → Prop
  | [], a => a = b
  | o :: rest, a => Calm P w o a (valOf b o) ∧ wpCalm P w b rest (a.put o.dst (valOf b o))
/-- No guard; each leaves its value in a slot of its own. -/
def plainB (n : Nat) : List Oper → Bool
  | [] => true
  | o :: rest => (match o.guard with | none => true | _ => false) && (match o.dst with | some d => decide (d < n) && rest.all (fun o' => o'.dst != some d) | none => false) && plainB n rest
theorem put_size (a : Act) (d : Option Tmp) (v : Value) : (a.put d v).tmps.size = a.tmps.size := by cases d <;> simp [Act.put]
theorem put_defers (a : Act) (d : Option Tmp) (v : Value) : (a.put d v).defers = a.defers := by cases d <;> rfl
theorem put_other (a : Act) (d : Option Tmp) (v : Value) (k : Nat) (h : d ≠ some k) : (a.put d v).tmps.getD k undef = a.tmps.getD k undef := by
  cases d with
  | none => rfl
  | some d =>
    have : d ≠ k := fun e => h (by rw [e])
    simp [Act.put, Array.getElem?_setIfInBounds_ne this]
theorem put_self (a : Act) (d : Nat) (v : Value) (h : d < a.tmps.size) : (a.put (some d) v).tmps.getD d undef = v := by
  simp [Act.put, h]
theorem wanted_plain {o : Oper} (h : o.guard = none) (a : Act) : Region.wanted o (yielded ops a.tmps) = true := by simp [Region.wanted, h]
theorem quiet_kept {C : World → Prop} {b : Act} {k : Nat} : ∀ (l : List Oper) (a : Act), (l.all fun o' => o'.dst != some k) = true → wpQuiet P ops C (fun a' => a' = b) l a → b.tmps.getD k undef = a.tmps.getD k undef
  | [], a, _, h => by have : a = b := h; rw [this]
  | o :: l, a, hd, h => by
    simp only [List.all_cons, Bool.and_eq_true, bne_iff_ne] at hd
    unfold wpQuiet at h
    split at h
    · obtain ⟨v, _, h2⟩ := h
      rw [quiet_kept l _ hd.2 h2, put_other _ _ _ _ hd.1]
    · rw [quiet_kept l _ hd.2 h, put_other _ _ _ _ hd.1]
theorem fix_of_quiet {C : World → Prop} {b : Act} : ∀ (l : List Oper) (a : Act), plainB a.tmps.size l = true → wpQuiet P ops C (fun a' => a' = b) l a → wpFix P C b l a
  | [], _, _, h => h
  | o :: l, a, hp, h => by
    simp only [plainB, Bool.and_eq_true] at hp
    obtain ⟨⟨hg, hd⟩, hp⟩ := hp
    have hg' : o.guard = none := by
      cases h0 : o.guard with
      | none => rfl
      | some _ => rw [h0] at hg; cases hg
    unfold wpQuiet at h
    rw [if_pos (wanted_plain hg' a)] at h
    obtain ⟨v, hv, h2⟩ := h
    cases hd0 : o.dst with
    | none => rw [hd0] at hd; cases hd
    | some d =>
      rw [hd0] at hd
      simp only [Bool.and_eq_true, decide_eq_true_eq] at hd
      rw [hd0] at h2
      have hval : valOf b o = v := by
        unfold valOf
        rw [hd0]
        show b.tmps.getD d undef = v
        rw [quiet_kept l _ hd.2 h2, put_self _ _ _ hd.1]
      unfold wpFix
      rw [hval, hd0]
      exact ⟨hv, fix_of_quiet l _ (by rw [put_size]; exact hp) h2⟩
theorem calm_of_fix {w : World} {b : Act} : ∀ (l : List Oper) (a : Act), (∀ F : World → Prop, Pres F → (∃ w', Below w.heap.size w w' ∧ F w') → wpFix P (ClassF w F) b l a) → wpCalm P w b l a
  | [], a, h => h (fun _ => True) (fun _ _ _ _ => trivial) ⟨w, Below.refl _ _, trivial⟩
  | o :: l, a, h => by
    refine ⟨fun w1 h1 => ?_, calm_of_fix l _ fun F hF hn => (h F hF hn).2⟩
    have hF : Pres (fun w' => Below w1.heap.size w1 w') := fun x y hx hy => hx.trans (hy.mono hx.size)
    have := (h (fun w' => Below w1.heap.size w1 w') hF ⟨w1, h1, Below.refl _ _⟩).1 w1 (classF_of h1 (Below.refl _ _))
    exact quietUpon_mono (fun w' hw' => (classF_below hw').2) this

/-! ### Any order of the head -/
abbrev News := Nat → Option (Array Value × TypeId)
def News.add (G : News) (g : Nat) (z : Array Value × TypeId) : News := fun k => if k = g then some z else G k
theorem News.add_comm (G : News) (g g' : Nat) (z z' : Array Value × TypeId) (h : g ≠ g') : (G.add g z).add g' z' = (G.add g' z').add g z := by
  funext k
  unfold News.add
  by_cases h1 : k = g
  · subst h1; rw [if_neg h, if_pos rfl, if_pos rfl]
  · by_cases h2 : k = g'
    · subst h2; rw [if_pos rfl, if_neg h1, if_pos rfl]
    · rw [if_neg h2, if_neg h1, if_neg h1, if_neg h2]
/-- A new variable of this zero value. -/
def FreshOp (P : Program) (o : Oper) (z : Array Value × TypeId) : Prop := o.op = .alloc z.2 ∧ ∀ w : World, (Instr.alloc z.2 true (.tuple #[])).run P w = .ok (.pointer (some ⟨w.heap.size, 0, none⟩)) (w.alloc (.cells z.1 z.2))
/-- The world as it stands in the head's midst. -/
structure Mid (w : World) (G : News) (w' : World) : Prop where
  below : Below w.heap.size w w'
  news : ∀ g z, G g = some z → Blk w' g z.1 z.2 ∧ w.heap.size ≤ g

/-- Whatever the world, this value, and the world left alone. -/
def PureAt (P : Program) (o : Oper) (a : Act) (v : Value) : Prop := ∀ w, (execOp a.eval o).run P w = .ok (.value v) w
/-- Operation i of the head comes up: it is calm (Z i = none), or a new variable. -/
def hOp (P : Program) (ops : Array Oper) (w : World) (b : Act) (Z : Nat → Option (Array Value × TypeId)) (fl : Nat → Bool) (i : Nat) (K : News → Act → Prop) (G : News) (a : Act) : Prop :=
  ∃ o, ops[i]? = some o ∧ o.guard = none ∧ match Z i with
    | none => (Calm P w o a (valOf b o) ∧ (fl i = true → PureAt P o a (valOf b o))) ∧ K G (a.put o.dst (valOf b o))
    | some z => FreshOp P o z ∧ ∀ g, w.heap.size ≤ g → G g = none → K (G.add g z) (a.put o.dst (.pointer (some ⟨g, 0, none⟩)))
variable {md : Region.Mode} {w : World} {b : Act} {Z : Nat → Option (Array Value × TypeId)} {fl : Nat → Bool}
theorem hOp_mono {i : Nat} {K K' : News → Act → Prop} {G : News} {a : Act} (h : ∀ G a, K G a → K' G a) (hh : hOp P ops w b Z fl i K G a) : hOp P ops w b Z fl i K' G a := by
  obtain ⟨o, ho, hg, hm⟩ := hh
  refine ⟨o, ho, hg, ?_⟩
  cases hz : Z i with
  | none => rw [hz] at hm; exact ⟨hm.1, h _ _ hm.2⟩
  | some z => rw [hz] at hm; exact ⟨hm.1, fun g h1 h2 => h _ _ (hm.2 g h1 h2)⟩
theorem wpOp_of_hOp {i : Nat} {K : News → Act → Prop} {K' : Act → World → Prop} {Q' : Exit → Act → World → Prop} {G : News} {a : Act} {w' : World} (hw : Mid w G w')
    (h : ∀ G a w', Mid w G w' → K G a → K' a w') (hh : hOp P ops w b Z fl i K G a) : wpOp P ops Q' i K' a w' := by
  obtain ⟨o, ho, hg, hm⟩ := hh
  unfold wpOp
  simp only [ho]
  rw [if_pos (wanted_plain hg a)]
  refine .inl ?_
  cases hz : Z i with
  | none =>
    rw [hz] at hm
    obtain ⟨⟨hc, _⟩, hK⟩ := hm
    have h3 := hc w' hw.below
    unfold Oper.quietAt at h3
    unfold Oper.wp
    generalize (execOp a.eval o).run P w' = r at *
    cases r with
    | ok n w'' =>
      cases n <;> simp only [Oper.quietUpon] at h3 <;> simp only [Oper.upon]
      case value u =>
        obtain ⟨e1, e2⟩ := h3
        rw [e1, e2]
        exact h _ _ _ hw hK
      case skip =>
        obtain ⟨e1, e2⟩ := h3
        rw [e1, ← e2]
        exact h _ _ _ hw hK
      case enter f args =>
        obtain ⟨e1, hcl⟩ := h3
        rw [e1]
        exact hcl.mono fun e x ⟨he, hx⟩ => by
          subst he
          exact h _ _ _ ⟨hw.below.trans (hx.mono hw.below.size), fun g z hgz => ⟨((hw.news g z hgz).1).at_ hx, (hw.news g z hgz).2⟩⟩ hK
    | halt x w'' => simp only [Oper.quietUpon] at h3
  | some z =>
    rw [hz] at hm
    obtain ⟨⟨hop, hrun⟩, hK⟩ := hm
    unfold Oper.wp execOp
    simp only [hop, hrun, Sem.run_bind, Result.andThen_ok, Sem.run_pure]
    have hnone : G w'.heap.size = none := by
      cases hG : G w'.heap.size with
      | none => rfl
      | some y => exact absurd ((hw.news _ _ hG).1).lt (Nat.lt_irrefl _)
    refine h _ _ _ ⟨hw.below.alloc hw.below.size _, fun g y hgy => ?_⟩ (hK _ hw.below.size hnone)
    unfold News.add at hgy
    split at hgy
    · rename_i e
      subst e
      cases hgy
      exact ⟨Blk.new _ _ _, hw.below.size⟩
    · exact ⟨((hw.news g y hgy).1).alloc _, (hw.news g y hgy).2⟩

/-- All of the head is done but what may float. -/
def doneB (fl : Nat → Bool) (n : Nat) (listed : Array Bool) : Bool := (List.range n).all fun i => fl i || listed.getD i false
theorem not_done {n : Nat} {listed : Array Bool} (h : doneB fl n listed = false) : ∃ i, i < n ∧ fl i = false ∧ listed.getD i false = false := by
  unfold doneB at h
  rw [List.all_eq_false] at h
  obtain ⟨i, hi, h2⟩ := h
  refine ⟨i, List.mem_range.1 hi, ?_⟩
  cases h3 : fl i <;> cases h4 : listed.getD i false <;> simp [h3, h4] at h2 ⊢
theorem done_spec {n : Nat} {listed : Array Bool} (h : doneB fl n listed = true) {i : Nat} (hi : i < n) (hf : fl i = false) : listed.getD i false = true := by
  have := List.all_eq_true.1 h i (List.mem_range.2 hi)
  rw [hf, Bool.false_or] at this
  exact this
theorem not_done_of {n : Nat} {listed : Array Bool} {i : Nat} (hi : i < n) (hf : fl i = false) (hu : listed.getD i false = false) : doneB fl n listed = false := by
  cases h : doneB fl n listed with
  | false => rfl
  | true => have := done_spec h hi hf; rw [hu] at this; cases this
theorem done_set {n : Nat} {listed : Array Bool} {i : Nat} (h : doneB fl n listed = true) : doneB fl n (listed.setIfInBounds i true) = true := by
  unfold doneB at *
  rw [List.all_eq_true] at *
  intro j hj
  have := h j hj
  rw [Bool.or_eq_true] at *
  exact this.imp id getD_set_true
theorem done_float {n : Nat} {listed : Array Bool} {i : Nat} (hf : fl i = true) (h : doneB fl n listed = false) : doneB fl n (listed.setIfInBounds i true) = false := by
  obtain ⟨k, hk, h1, h2⟩ := not_done h
  have hne : i ≠ k := fun e => by subst e; rw [hf] at h1; cases h1
  exact not_done_of hk h1 (by rw [getD_set_ne false hne]; exact h2)

def wpAnyH (P : Program) (md : Region.Mode) (ops : Array Oper) (w : World) (b : Act) (Z : Nat → Option (Array Value × TypeId)) (fl : Nat → Bool) (n : Nat) (Q' : Exit → Act → World → Prop) : Nat → Array Bool → News → Act → Prop
  | 0, _, _, _ => False
  | f + 1, listed, G, a => if doneB fl n listed = true then ∀ w', Mid w G w' → wpAny P md ops Q' (f + 1) listed a w'
    else Region.ready md ops listed ≠ [] ∧ ∀ i ∈ Region.ready md ops listed, i < n ∧ hOp P ops w b Z fl i (wpAnyH P md ops w b Z fl n Q' f (listed.setIfInBounds i true)) G a
theorem wpAny_of_headH {n : Nat} {Q' : Exit → Act → World → Prop} : ∀ (f : Nat) (listed : Array Bool) (G : News) (a : Act) (w' : World), Mid w G w' → wpAnyH P md ops w b Z fl n Q' f listed G a → wpAny P md ops Q' f listed a w'
  | 0, _, _, _, _, _, h => h.elim
  | f + 1, listed, G, a, w', hw, h => by
    unfold wpAnyH at h
    split at h
    · exact h w' hw
    · exact ⟨fun h0 => absurd h0 h.1, fun i hi => wpOp_of_hOp hw (fun G' a' w'' hw'' h' => wpAny_of_headH f _ G' a' w'' hw'' h') (h.2 i hi).2⟩

/-- 'oj' ahead of a calm 'oi' that is apart from it. -/
theorem hOp_put {j : Nat} {oi oj : Oper} (hj : ops[j]? = some oj) (hap : oi.apart ops oj = true) (hsi : ∀ cs c, oi.op ≠ .select cs c) (hsj : ∀ cs c, oj.op ≠ .select cs c) {K : News → Act → Prop} {G : News} {a : Act} {v : Value} {fi : Bool}
    (hy : Calm P w oi a v ∧ (fi = true → PureAt P oi a v)) (h : hOp P ops w b Z fl j K G (a.put oi.dst v)) : hOp P ops w b Z fl j (fun G' a' => (Calm P w oi a' v ∧ (fi = true → PureAt P oi a' v)) ∧ K G' (a'.put oi.dst v)) G a := by
  obtain ⟨h1, h2, h3⟩ := Oper.apart_spec hap
  have keep : ∀ u, Calm P w oi (a.put oj.dst u) v ∧ (fi = true → PureAt P oi (a.put oj.dst u) v) := fun u =>
    ⟨hy.1.of_same (execOp_put oi hsi a oj.dst u h3), fun hf w' => by rw [execOp_put oi hsi a oj.dst u h3]; exact hy.2 hf w'⟩
  obtain ⟨o, ho, hg, hm⟩ := h
  have e : o = oj := Option.some.inj (ho.symm.trans hj)
  subst e
  refine ⟨o, ho, hg, ?_⟩
  cases hz : Z j with
  | none =>
    rw [hz] at hm
    exact ⟨⟨hm.1.1.of_same (execOp_put o hsj a oi.dst v h1).symm, fun hf w' => by rw [← execOp_put o hsj a oi.dst v h1]; exact hm.1.2 hf w'⟩, keep _, by rw [← Act.put_comm a v _ h2]; exact hm.2⟩
  | some z =>
    rw [hz] at hm
    exact ⟨hm.1, fun g h4 h5 => ⟨keep _, by rw [← Act.put_comm a v _ h2]; exact hm.2 g h4 h5⟩⟩
/-- Does j wait for i, straight or through others? -/
def waitsB (md : Region.Mode) (ops : Array Oper) : Nat → Nat → Nat → Bool
  | 0, _, _ => false
  | f + 1, j, i => match ops[j]? with
    | some oj => oj.after.any fun e => Region.binds md e && (e.on == i || waitsB md ops f e.on i)
    | none => false
theorem waits_listed {n : Nat} {listed : Array Bool} (inv : HeadInv md ops n listed) : ∀ (f j i : Nat), (∀ oj, ops[j]? = some oj → ∀ e ∈ oj.after, Region.binds md e = true → listed.getD e.on false = true) → waitsB md ops f j i = true → listed.getD i false = true
  | 0, _, _, _, h => by simp [waitsB] at h
  | f + 1, j, i, hj, h => by
    unfold waitsB at h
    split at h
    · rename_i oj hoj
      obtain ⟨e, he, hb⟩ := Array.any_eq_true'.1 h
      simp only [Bool.and_eq_true, Bool.or_eq_true, beq_iff_eq] at hb
      have hl := hj oj hoj e he hb.1
      rcases hb.2 with h2 | h2
      · rw [← h2]; exact hl
      · exact waits_listed inv f e.on i (fun ok hok e' he' hb' => inv.closed e.on ok hok hl e' he' hb') h2
    · cases h

/-- The chain's first operation waits for all of the head but what floats; each further one for the one ahead; what floats waits for the first m1. -/
def sinkF (md : Region.Mode) (ops : Array Oper) (fl : Nat → Bool) (m1 n : Nat) : Bool :=
  ((List.range n).all fun i => fl i || waitsB md ops ops.size n i) && ((List.range n).all fun j => !fl j || (List.range m1).all fun i => waitsB md ops ops.size j i)
section
variable {m1 n : Nat} {Q' : Exit → Act → World → Prop}
theorem below_n {listed : Array Bool} (hs : sinkF md ops fl m1 n = true) (hc : Region.chainB md ops n = true) (inv : HeadInv md ops n listed) (hd : doneB fl n listed = false) : ∀ j ∈ Region.ready md ops listed, j < n := by
  intro t hr
  obtain ⟨k, hk, h1, h2⟩ := not_done hd
  rcases Nat.lt_or_ge t n with h | ht
  · exact h
  · exfalso
    obtain ⟨_, ot, hot, hall⟩ := mem_ready.1 hr
    have htlt : t < ops.size := (Array.getElem?_eq_some_iff.1 hot).1
    by_cases htn : t = n
    · subst htn
      simp only [sinkF, Bool.and_eq_true] at hs
      have h3 := List.all_eq_true.1 hs.1 k (List.mem_range.2 hk)
      rw [h1, Bool.false_or] at h3
      have := waits_listed inv _ t k (fun oj hoj e he hb => by
        have e1 : oj = ot := Option.some.inj (hoj.symm.trans hot)
        subst e1
        exact hall e he hb) h3
      rw [h2] at this; cases this
    · have h3 := List.all_eq_true.1 hc t (List.mem_range.2 htlt)
      simp only [Bool.or_eq_true, decide_eq_true_eq] at h3
      rcases h3 with h3 | h3
      · omega
      · obtain ⟨o', ho', e, he, hb, hon⟩ := Region.waitsFor_spec h3
        have e1 : o' = ot := Option.some.inj (ho'.symm.trans hot)
        subst e1
        have h4 := hall e he hb
        rw [hon, getD_both (inv.tail (t - 1) (by omega) (by omega))] at h4
        cases h4
theorem wpAnyH_first {i : Nat} {oi : Oper} (hi : ops[i]? = some oi) (hgi : oi.guard = none) (hzi : Z i = none) (hsel : ∀ (j : Nat) (o : Oper) cs c, ops[j]? = some o → o.op ≠ .select cs c)
    (hs : sinkF md ops fl m1 n = true) (hc : Region.chainB md ops n = true) (hin : i < n) (him : fl i = false → i < m1) (hQ : ∀ c (a a' : Act) w, a'.defers = a.defers → Q' (.panic c) a w → Q' (.panic c) a' w) :
    ∀ (f : Nat) (listed : Array Bool) (G : News) (a : Act), HeadInv md ops n listed →
      (∀ j oj, ops[j]? = some oj → j ≠ i → listed.getD j true = false → (∀ e ∈ oj.after, Region.binds md e = true → e.on ≠ i) → oi.apart ops oj = true) →
      i ∈ Region.ready md ops listed → (Calm P w oi a (valOf b oi) ∧ (fl i = true → PureAt P oi a (valOf b oi))) →
      wpAnyH P md ops w b Z fl n Q' f (listed.setIfInBounds i true) G (a.put oi.dst (valOf b oi)) → wpAnyH P md ops w b Z fl n Q' (f + 1) listed G a := by
  intro f
  induction f with
  | zero => intro _ _ _ _ _ _ _ H; exact H.elim
  | succ f ih =>
    intro listed G a inv hfree hr hy H
    have hun := (mem_ready.1 hr).1
    unfold wpAnyH
    cases hd : doneB fl n listed with
    | true =>
      rw [if_pos rfl]
      have hfi : fl i = true := by
        cases h : fl i with
        | true => rfl
        | false => have := done_spec hd hin h; rw [getD_both hun] at this; cases this
      intro w' hw'
      unfold wpAnyH at H
      rw [if_pos (done_set hd)] at H
      exact wpAny_first hi hsel (fun c a w h => hQ c _ _ w (put_defers _ _ _).symm h) (f + 1) listed a w' hfree hr (.inl ⟨wanted_plain hgi a, hy.2 hfi⟩) (H w' hw')
    | false =>
      rw [if_neg (by simp)]
      refine ⟨fun h => (by rw [h] at hr; cases hr), fun j hj => ?_⟩
      have hjn := below_n hs hc inv hd j hj
      refine ⟨hjn, ?_⟩
      by_cases hji : j = i
      · subst hji; exact ⟨oi, hi, hgi, by rw [hzi]; exact ⟨hy, H⟩⟩
      · obtain ⟨hjun, oj, hoj, hall⟩ := mem_ready.1 hj
        have hd2 : doneB fl n (listed.setIfInBounds i true) = false := by
          cases hfi : fl i with
          | true => exact done_float hfi hd
          | false =>
            cases hfj : fl j with
            | false => exact not_done_of hjn hfj (by rw [getD_set_ne false (Ne.symm hji)]; exact getD_both hjun)
            | true =>
              exfalso
              simp only [sinkF, Bool.and_eq_true] at hs
              have h3 := List.all_eq_true.1 hs.2 j (List.mem_range.2 hjn)
              rw [hfj, Bool.not_true, Bool.false_or] at h3
              have h4 := List.all_eq_true.1 h3 i (List.mem_range.2 (him hfi))
              have := waits_listed inv _ j i (fun ok hok e he hb => by
                have e1 : ok = oj := Option.some.inj (hok.symm.trans hoj)
                subst e1
                exact hall e he hb) h4
              rw [getD_both hun] at this; cases this
        unfold wpAnyH at H
        rw [if_neg (by rw [hd2]; simp)] at H
        have h1 := (H.2 j (ready_mono hj hji)).2
        have hnot : ∀ e ∈ oj.after, Region.binds md e = true → e.on ≠ i := fun e he hb heq => by
          have h1 := hall e he hb
          rw [heq, getD_both hun] at h1
          cases h1
        have h2 := hOp_put hoj (hfree j oj hoj hji hjun hnot) (fun cs c => hsel i oi cs c hi) (fun cs c => hsel j oj cs c hoj) hy h1
        have hfree' : ∀ k ok, ops[k]? = some ok → k ≠ i → (listed.setIfInBounds j true).getD k true = false →
            (∀ e ∈ ok.after, Region.binds md e = true → e.on ≠ i) → oi.apart ops ok = true := fun k ok hk hki hun hno => by
          refine hfree k ok hk hki ?_ hno
          by_cases hjk : j = k
          · subst hjk; exact hjun
          · rw [getD_set_ne true hjk] at hun; exact hun
        refine hOp_mono (fun G' a' h3 => ih (listed.setIfInBounds j true) G' a' (inv.set hj hjn) hfree' (ready_mono hr (Ne.symm hji)) h3.1 ?_) h2
        rw [Array.setIfInBounds_comm _ _ hji]
        exact h3.2

/-- A new variable first, when only new variables are left of the head. -/
theorem wpAnyH_fresh {i : Nat} {oi : Oper} {z : Array Value × TypeId} (hi : ops[i]? = some oi) (hgi : oi.guard = none) (hzi : Z i = some z) (hfr : FreshOp P oi z)
    (hs : sinkF md ops fl m1 n = true) (hc : Region.chainB md ops n = true) (hin : i < n) (hfl : ∀ j, (∃ z, Z j = some z) → fl j = false) :
    ∀ (f : Nat) (listed : Array Bool) (G : News) (a : Act), HeadInv md ops n listed →
      (∀ j oj, ops[j]? = some oj → j ≠ i → listed.getD j true = false → (∀ e ∈ oj.after, Region.binds md e = true → e.on ≠ i) → oi.apart ops oj = true) →
      (∀ j, j < n → listed.getD j true = false → ∃ z, Z j = some z) →
      i ∈ Region.ready md ops listed →
      (∀ g, w.heap.size ≤ g → G g = none → wpAnyH P md ops w b Z fl n Q' f (listed.setIfInBounds i true) (G.add g z) (a.put oi.dst (.pointer (some ⟨g, 0, none⟩)))) → (∃ g, w.heap.size ≤ g ∧ G g = none ∧ ∀ k, g ≤ k → G k = none) → wpAnyH P md ops w b Z fl n Q' (f + 1) listed G a := by
  intro f
  induction f with
  | zero => intro _ _ _ _ _ _ _ H ⟨g0, hg0, hG0, _⟩; exact (H g0 hg0 hG0).elim
  | succ f ih =>
    intro listed G a inv hfree hnews hr H ⟨g0, hg0, hG0, hbig⟩
    have hun := (mem_ready.1 hr).1
    have hd : doneB fl n listed = false := not_done_of hin (hfl i ⟨z, hzi⟩) (getD_both hun)
    unfold wpAnyH
    rw [if_neg (by rw [hd]; simp)]
    refine ⟨fun h => (by rw [h] at hr; cases hr), fun j hj => ?_⟩
    have hjn := below_n hs hc inv hd j hj
    refine ⟨hjn, ?_⟩
    by_cases hji : j = i
    · subst hji; exact ⟨oi, hi, hgi, by rw [hzi]; exact ⟨hfr, H⟩⟩
    · obtain ⟨hjun, oj, hoj, hall⟩ := mem_ready.1 hj
      obtain ⟨zj, hzj⟩ := hnews j hjn hjun
      have hnot : ∀ e ∈ oj.after, Region.binds md e = true → e.on ≠ i := fun e he hb heq => by
        have h1 := hall e he hb
        rw [heq, getD_both hun] at h1
        cases h1
      obtain ⟨_, h2, _⟩ := Oper.apart_spec (hfree j oj hoj hji hjun hnot)
      have hd2 : doneB fl n (listed.setIfInBounds i true) = false := not_done_of hjn (hfl j ⟨zj, hzj⟩) (by rw [getD_set_ne false (Ne.symm hji)]; exact getD_both hjun)
      have H2 : ∀ g, w.heap.size ≤ g → G g = none → hOp P ops w b Z fl j (wpAnyH P md ops w b Z fl n Q' f ((listed.setIfInBounds i true).setIfInBounds j true)) (G.add g z) (a.put oi.dst (.pointer (some ⟨g, 0, none⟩))) := fun g h3 h4 => by
        have := H g h3 h4
        unfold wpAnyH at this
        rw [if_neg (by rw [hd2]; simp)] at this
        exact (this.2 j (ready_mono hj hji)).2
      obtain ⟨o, ho, hgj, hm⟩ := H2 g0 hg0 hG0
      have e : o = oj := Option.some.inj (ho.symm.trans hoj)
      subst e
      rw [hzj] at hm
      refine ⟨o, ho, hgj, ?_⟩
      rw [hzj]
      refine ⟨hm.1, fun g' hg' hG' => ?_⟩
      have hfree' : ∀ k ok, ops[k]? = some ok → k ≠ i → (listed.setIfInBounds j true).getD k true = false →
          (∀ e ∈ ok.after, Region.binds md e = true → e.on ≠ i) → oi.apart ops ok = true := fun k ok hk hki hun hno => by
        refine hfree k ok hk hki ?_ hno
        by_cases hjk : j = k
        · subst hjk; exact hjun
        · rw [getD_set_ne true hjk] at hun; exact hun
      refine ih (listed.setIfInBounds j true) _ _ (inv.set hj hjn) hfree' (fun k hk hku => ?_) (ready_mono hr (Ne.symm hji)) (fun g hg hG => ?_) ⟨max g0 (g' + 1), by omega, ?_, fun k hk => ?_⟩
      · by_cases hjk : j = k
        · subst hjk; exact ⟨zj, hzj⟩
        · rw [getD_set_ne true hjk] at hku; exact hnews k hk hku
      · have hne : g ≠ g' := fun e => by subst e; unfold News.add at hG; rw [if_pos rfl] at hG; cases hG
        have hGg : G g = none := by unfold News.add at hG; rwa [if_neg hne] at hG
        obtain ⟨o2, ho2, _, hm2⟩ := H2 g hg hGg
        have e2 : o2 = o := Option.some.inj (ho2.symm.trans hoj)
        subst e2
        rw [hzj] at hm2
        have := hm2.2 g' hg' (by unfold News.add; rw [if_neg (Ne.symm hne)]; exact hG')
        rw [Array.setIfInBounds_comm _ _ hji, News.add_comm _ _ _ _ _ (Ne.symm hne), ← Act.put_comm a _ _ h2]
        exact this
      · unfold News.add; rw [if_neg (by omega)]; exact hbig _ (by omega)
      · unfold News.add; rw [if_neg (by omega)]; exact hbig _ (by omega)
end
end
end Go.Proofs.Ytokjmdlklhkjlaa
