/- The theorem for such regions, and its shapes for one and for two new variables. -/
import Derived.Test.YtokjmdlklhkjlaaFresh
namespace Go.Proofs.Ytokjmdlklhkjlaa
open Go.RowKit Go.Sort

section
variable {P : Program} {ops : Array Oper} {md : Region.Mode} {w : World} {b : Act} {Z : Nat → Option (Array Value × TypeId)} {fl : Nat → Bool}
def isExtract (o : Oper) : Bool := match o.op with | .extract _ _ => true | _ => false
theorem extract_pure {o : Oper} {a : Act} {v : Value} (he : isExtract o = true) (h : Calm P w o a v) : PureAt P o a v := by
  have h0 := h w (Below.refl _ _)
  unfold isExtract at he
  split at he
  · rename_i x k hop
    intro w1
    unfold Oper.quietAt execOp at h0
    unfold execOp
    simp only [hop, Sem.run_bind] at h0 ⊢
    have hst : ∀ w', Oper.quietUpon P (fun w' => Below w.heap.size w w') w v (((stuck "Extract: tuple expected" : Sem Value).run P w').andThen fun u w'' => (pure (Next.value u) : Sem Next).run P w'') → False := fun w' h => h
    have hst2 : ∀ w', Oper.quietUpon P (fun w' => Below w.heap.size w w') w v (((stuck "Extract: no such component" : Sem Value).run P w').andThen fun u w'' => (pure (Next.value u) : Sem Next).run P w'') → False := fun w' h => h
    unfold Instr.extract at h0 ⊢
    generalize a.eval x = y at h0 ⊢
    cases y with
    | tuple vs =>
      dsimp only at h0 ⊢
      cases hk : vs[k]? with
      | none => rw [hk] at h0; exact (hst2 _ h0).elim
      | some u =>
        simp only [hk, Sem.run_pure, Result.andThen_ok, Oper.quietUpon] at h0 ⊢
        rw [h0.2]
    | _ => exact (hst _ h0).elim
  · cases he
def wpNews (P : Program) (w : World) (L : News → Act → Prop) : List Oper → List (Array Value × TypeId) → News → Act → Prop
  | o :: os, z :: zs, G, a => FreshOp P o z ∧ o.guard = none ∧ ∀ g, w.heap.size ≤ g → G g = none → wpNews P w L os zs (G.add g z) (a.put o.dst (.pointer (some ⟨g, 0, none⟩)))
  | [], [], G, a => L G a
  | _, _, _, _ => False
theorem listed_all {n : Nat} {listed : Array Bool} (hn : n < ops.size) (inv : HeadInv md ops n listed) (hun : ∀ j, j < n → listed.getD j true = false → n ≤ j) : doneB fl n listed = true := by
  unfold doneB
  rw [List.all_eq_true]
  intro j hj
  have hjn := List.mem_range.1 hj
  rw [Bool.or_eq_true]
  right
  cases h : listed.getD j false with
  | true => rfl
  | false =>
    have := hun j hjn (getD_in (by rw [inv.size]; omega) h)
    omega
theorem fresh_lex {m1 n g : Nat} {Q' : Exit → Act → World → Prop} {Lq : News → Act → Prop} (hs : sinkF md ops fl m1 n = true) (hc : Region.chainB md ops n = true) (hn : n < ops.size) (hfl : ∀ j, (∃ z, Z j = some z) → fl j = false)
    (hend : ∀ listed G a, Region.seqB md ops (g + 1) n listed = true → Lq G a → ∀ w', Mid w G w' → wpAny P md ops Q' (g + 1) listed a w') :
    ∀ (l : List Oper) (zs : List (Array Value × TypeId)) (k : Nat) (listed : Array Bool) (G : News) (a : Act), (∀ j, j < l.length → l[j]? = ops[k + j]?) → k + l.length = n → l.length = zs.length → (∀ j, j < zs.length → Z (k + j) = zs[j]?) → HeadInv md ops n listed →
      (∀ j, j < n → listed.getD j true = false → k ≤ j) → (∃ g, w.heap.size ≤ g ∧ G g = none ∧ ∀ k, g ≤ k → G k = none) →
      Region.lexHead md ops (g + 1) l.length k listed = true → wpNews P w Lq l zs G a → wpAnyH P md ops w b Z fl n Q' (l.length + (g + 1)) listed G a
  | [], [], k, listed, G, a, _, hk, _, _, inv, hun, _, hB, h => by
    have : k = n := by simpa using hk
    subst this
    rw [List.length_nil, Nat.zero_add]
    unfold wpAnyH
    rw [if_pos (listed_all hn inv hun)]
    exact hend _ _ _ (by simpa [Region.lexHead] using hB) h
  | o :: l, z :: zs, k, listed, G, a, hl, hk, hlen, hZ, inv, hun, hbig, hB, h => by
    have h0 : ops[k]? = some o := by simpa using (hl 0 (by simp)).symm
    simp only [List.length_cons, Region.lexHead, Bool.and_eq_true] at hB
    obtain ⟨⟨hr, hf⟩, hB'⟩ := hB
    have hkn : k < n := by simp only [List.length_cons] at hk; omega
    have hr' : k ∈ Region.ready md ops listed := by simpa using hr
    obtain ⟨hfr, hg, hK⟩ := h
    rw [List.length_cons, show l.length + 1 + (g + 1) = (l.length + (g + 1)) + 1 by omega]
    refine wpAnyH_fresh h0 hg (by have := hZ 0 (by simp); simpa using this) hfr hs hc hkn hfl (l.length + (g + 1)) listed G a inv (Region.free_spec h0 hf) (fun j hj hju => ?_) hr' (fun g' h1 h2 => ?_) hbig
    · have hkj := hun j hj hju
      have hjz : j - k < (z :: zs).length := by rw [← hlen]; simp only [List.length_cons] at hk ⊢; omega
      have := hZ (j - k) hjz
      rw [show k + (j - k) = j by omega, List.getElem?_eq_getElem hjz] at this
      exact ⟨_, this⟩
    · refine fresh_lex hs hc hn hfl hend l zs (k + 1) _ _ _ (fun j hj => by have := hl (j + 1) (by simp; omega); simpa [Nat.add_assoc, Nat.add_comm 1 j] using this) (by simp only [List.length_cons] at hk; omega) (by simpa using hlen)
        (fun j hj => by have := hZ (j + 1) (by simp; omega); simpa [Nat.add_assoc, Nat.add_comm 1 j] using this) (inv.set hr' hkn) (fun j hj hju => ?_) ?_ hB' (hK g' h1 h2)
      · by_cases hjk : k = j
        · subst hjk
          have hsz : k < listed.size := by rw [inv.size]; omega
          simp [hsz] at hju
        · rw [getD_set_ne true hjk] at hju
          have := hun j hj hju; omega
      · obtain ⟨g0, a1, a2, a3⟩ := hbig
        exact ⟨max g0 (g' + 1), by omega, by unfold News.add; rw [if_neg (by omega)]; exact a3 _ (by omega), fun x hx => by unfold News.add; rw [if_neg (by omega)]; exact a3 _ (by omega)⟩
  | [], _ :: _, _, _, _, _, _, _, hlen, _, _, _, _, _, _ => by simp at hlen
  | _ :: _, [], _, _, _, _, _, _, hlen, _, _, _, _, _, _ => by simp at hlen
theorem calm_lex {m1 n g r : Nat} {Q' : Exit → Act → World → Prop} {G : News} (hsel : Region.noSelect ops = true) (hs : sinkF md ops fl m1 n = true) (hc : Region.chainB md ops n = true) (hn : n < ops.size) (hQ : ∀ c (a a' : Act) w, a'.defers = a.defers → Q' (.panic c) a w → Q' (.panic c) a' w)
    (hrest : ∀ listed, HeadInv md ops n listed → (∀ j, j < n → listed.getD j true = false → n - r ≤ j) → Region.lexHead md ops (g + 1) r (n - r) listed = true → wpAnyH P md ops w b Z fl n Q' (r + (g + 1)) listed G b) :
    ∀ (l : List Oper) (k : Nat) (listed : Array Bool) (a : Act), (∀ j, j < l.length → l[j]? = ops[k + j]?) → k + l.length + r = n → (∀ j, j < l.length → Z (k + j) = none) → (∀ j, j < l.length → fl (k + j) = false → k + j < m1) → (∀ j o, l[j]? = some o → fl (k + j) = true → isExtract o = true) → (l.all fun o => o.guard.isNone) = true → HeadInv md ops n listed →
      (∀ j, j < n → listed.getD j true = false → k ≤ j) →
      Region.lexHead md ops (g + 1) (l.length + r) k listed = true → wpCalm P w b l a → wpAnyH P md ops w b Z fl n Q' (l.length + r + (g + 1)) listed G a
  | [], k, listed, a, _, hk, _, _, _, _, inv, hun, hB, h => by
    have e : a = b := h
    subst e
    have hk' : k = n - r := by simp at hk; omega
    subst hk'
    simp only [List.length_nil, Nat.zero_add] at hB ⊢
    exact hrest listed inv hun hB
  | o :: l, k, listed, a, hl, hk, hZ, hm1, hex, hgs, inv, hun, hB, h => by
    have h0 : ops[k]? = some o := by simpa using (hl 0 (by simp)).symm
    rw [List.length_cons, show l.length + 1 + r = (l.length + r) + 1 by omega] at hB
    rw [List.length_cons, show l.length + 1 + r + (g + 1) = (l.length + r + (g + 1)) + 1 by omega]
    simp only [Region.lexHead, Bool.and_eq_true] at hB
    obtain ⟨⟨hr, hf⟩, hB'⟩ := hB
    simp only [List.all_cons, Bool.and_eq_true, Option.isNone_iff_eq_none] at hgs
    have hkn : k < n := by simp only [List.length_cons] at hk; omega
    have hr' : k ∈ Region.ready md ops listed := by simpa using hr
    refine wpAnyH_first h0 hgs.1 (by have := hZ 0 (by simp); simpa using this) (Region.noSelect_spec hsel) hs hc hkn (by have := hm1 0 (by simp); simpa using this) hQ (l.length + r + (g + 1)) listed G a inv (Region.free_spec h0 hf) hr' ⟨h.1, fun hfk => extract_pure (hex 0 o (by simp) (by simpa using hfk)) h.1⟩ ?_
    refine calm_lex hsel hs hc hn hQ hrest l (k + 1) _ _ (fun j hj => by have := hl (j + 1) (by simp; omega); simpa [Nat.add_assoc, Nat.add_comm 1 j] using this) (by simp only [List.length_cons] at hk; omega)
      (fun j hj => by have := hZ (j + 1) (by simp; omega); simpa [Nat.add_assoc, Nat.add_comm 1 j] using this) (fun j hj hf => by have := hm1 (j + 1) (by simp; omega); rw [show k + (j + 1) = k + 1 + j by omega] at this; exact this hf) (fun j o' hj hf => hex (j + 1) o' (by simpa using hj) (by rw [show k + (j + 1) = k + 1 + j by omega]; exact hf)) hgs.2 (inv.set hr' hkn) (fun j hj hju => ?_) hB' h.2
    by_cases hjk : k = j
    · subst hjk
      have hsz : k < listed.size := by rw [inv.size]; omega
      simp [hsz] at hju
    · rw [getD_set_ne true hjk] at hju
      have := hun j hj hju; omega
theorem plain_guard : ∀ {n : Nat} {l : List Oper}, plainB n l = true → (l.all fun o => o.guard.isNone) = true
  | _, [], _ => rfl
  | n, o :: l, h => by
    simp only [plainB, Bool.and_eq_true] at h
    simp only [List.all_cons, Bool.and_eq_true]
    refine ⟨?_, plain_guard h.2⟩
    cases hg : o.guard with
    | none => rfl
    | some _ => rw [hg] at h; cases h.1.1

def floats (m1 m : Nat) (i : Nat) : Bool := decide (m1 ≤ i) && decide (i < m)
/-- The shape of such a region: told by looking. m1 operations that read or call, then 'extract's up to m, then new variables up to n, then a chain. -/
def freshB (l : List Oper) (m1 m n : Nat) : Bool :=
  Region.noSelect l.toArray && decide (n < l.length) && decide (m1 ≤ m) && sinkF .any l.toArray (floats m1 m) m1 n && Region.chainB .any l.toArray n && Region.lexHead .any l.toArray (l.length - n) n 0 (Array.replicate l.toArray.size false) && (((l.take m).drop m1).all isExtract)
/-- **A region that draws its order: m operations that read or call (the last of them may be 'extract's, which may come behind the stores); new variables; a chain of stores and assignments behind them.** -/
theorem wp_region_fresh {id : Nat} {Q : Exit → Act → World → Prop} {a : Act} {w : World} {l : List Oper} (m1 m : Nat) (zs : List (Array Value × TypeId)) (b : Act) (hm : P.follows .mixedOrders = true) (hB : freshB l m1 m (m + zs.length) = true) (hp : plainB a.tmps.size (l.take m) = true) (hQ : ∀ c (a a' : Act) w, a'.defers = a.defers → Q (.panic c) a w → Q (.panic c) a' w)
    (hcalm : ∀ F : World → Prop, Pres F → Nonempty (RegrownF w F) → wpQuiet P l.toArray (fun w' => ∃ p : RegrownF w F, w' = grow (redrawn w p.d) p.os) (fun a' => a' = b) (l.take m) a)
    (hnews : wpNews P w (fun G a' => ∀ W, Mid w G W → wpList P l.toArray Q (l.drop (m + zs.length)) a' W) ((l.drop m).take zs.length) zs (fun _ => none) b) : (Code.region id l.toArray true).wp P Q a w := by
  simp only [freshB, Bool.and_eq_true, decide_eq_true_eq] at hB
  obtain ⟨⟨⟨⟨⟨⟨hsel, hn'⟩, h1m⟩, hs⟩, hc⟩, hlex⟩, hext⟩ := hB
  have hn : m + zs.length < l.toArray.size := by simpa using hn'
  have htl : (l.take m).length = m := by simp; omega
  have htl2 : ((l.drop m).take zs.length).length = zs.length := by simp; omega
  obtain ⟨g, hg⟩ : ∃ g, l.length - (m + zs.length) = g + 1 := ⟨l.length - (m + zs.length) - 1, by omega⟩
  have hdl : (l.drop (m + zs.length)).length = g + 1 := by rw [List.length_drop]; exact hg
  rw [hg] at hlex
  have inv0 : HeadInv .any l.toArray (m + zs.length) (Array.replicate l.toArray.size false) :=
    ⟨by simp, fun j oj _ hl => (by rw [getD_replicate_false] at hl; cases hl), fun t _ ht => getD_in (by simpa using ht) (getD_replicate_false _ _)⟩
  have hcal : wpCalm P w b (l.take m) a := calm_of_fix _ _ fun F hF ⟨w', hb, hFw⟩ => by
    obtain ⟨p, rfl⟩ := regrown_of_below hb
    exact fix_of_quiet _ _ hp (hcalm F hF ⟨⟨p.d, p.os, hFw⟩⟩)
  have hend : ∀ listed (G : News) a, Region.seqB .any l.toArray (g + 1) (m + zs.length) listed = true → (∀ W, Mid w G W → wpList P l.toArray Q (l.drop (m + zs.length)) a W) → ∀ w', Mid w G w' → wpAny P .any l.toArray Q (g + 1) listed a w' := by
    intro listed G a hseq hL w' hw'
    have := wpAny_of_seq (md := .any) (Q' := Q) (l.drop (m + zs.length)) (m + zs.length) listed a w' (fun j => by simp [List.getElem?_drop]) (by rw [hdl]; exact hseq) (hL w' hw')
    rwa [hdl] at this
  have hfirst : ∀ listed, HeadInv .any l.toArray (m + zs.length) listed → (∀ j, j < m + zs.length → listed.getD j true = false → m + zs.length - zs.length ≤ j) → Region.lexHead .any l.toArray (g + 1) zs.length (m + zs.length - zs.length) listed = true →
      wpAnyH P .any l.toArray w b (fun i => if i < m then none else zs[i - m]?) (floats m1 m) (m + zs.length) Q (zs.length + (g + 1)) listed (fun _ => none) b := by
    intro listed inv hun hB
    rw [show m + zs.length - zs.length = m by omega] at hun hB
    have := fresh_lex (P := P) (w := w) (b := b) (Z := fun i => if i < m then none else zs[i - m]?) (Lq := fun G a' => ∀ W, Mid w G W → wpList P l.toArray Q (l.drop (m + zs.length)) a' W) hs hc hn (fun j ⟨z, hz⟩ => by
        unfold floats
        by_cases hj : j < m
        · rw [if_pos hj] at hz; cases hz
        · rw [decide_eq_false hj, Bool.and_false]) hend ((l.drop m).take zs.length) zs m listed (fun _ => none) b
      (fun j hj => by rw [htl2] at hj; rw [List.getElem?_take_of_lt hj, List.getElem?_drop]; simp) (by rw [htl2]) htl2 (fun j hj => by rw [if_neg (by omega)]; congr 1; omega) inv hun ⟨w.heap.size, Nat.le_refl _, rfl, fun _ _ => rfl⟩ (by rw [htl2]; exact hB) hnews
    rw [htl2] at this
    exact this
  have H := calm_lex (P := P) (w := w) (b := b) (G := fun _ => none) (r := zs.length) hsel hs hc hn hQ hfirst (l.take m) 0 (Array.replicate l.toArray.size false) a
    (fun j hj => by rw [htl] at hj; simp [hj]) (by rw [htl]; omega) (fun j hj => by rw [htl] at hj; rw [if_pos (by omega)]) (fun j hj hf => by
      rw [htl] at hj
      unfold floats at hf
      rw [decide_eq_true (show 0 + j < m by omega), Bool.and_true] at hf
      have := of_decide_eq_false hf; omega) (fun j o hj hf => by
      unfold floats at hf
      simp only [Bool.and_eq_true, decide_eq_true_eq] at hf
      refine List.all_eq_true.1 hext o (List.mem_of_getElem? (i := j - m1) ?_)
      rw [List.getElem?_drop, show m1 + (j - m1) = j by omega]
      exact hj) (plain_guard hp) inv0 (fun j _ _ => Nat.zero_le _) (by rw [htl]; exact hlex) hcal
  refine wp_region_any hm ?_
  have := wpAny_of_headH (P := P) (w := w) (b := b) (Q' := Q) _ _ _ _ { w with drawn := w.drawn + 1 } ⟨(Below.refl _ _).drew, fun _ _ h => by cases h⟩ H
  rw [htl, show m + zs.length + (g + 1) = l.toArray.size by rw [List.size_toArray]; omega] at this
  exact this
/-- One new variable. -/
theorem wp_region_fresh1 {id : Nat} {Q : Exit → Act → World → Prop} {a : Act} {w : World} {l : List Oper} (m1 m : Nat) (z : Array Value) (t : TypeId) (b : Act) (o : Oper) (hm : P.follows .mixedOrders = true) (hB : freshB l m1 m (m + 1) = true) (hp : plainB a.tmps.size (l.take m) = true) (hQ : ∀ c (a a' : Act) w, a'.defers = a.defers → Q (.panic c) a w → Q (.panic c) a' w)
    (ho : (l.drop m).take 1 = [o]) (hop : o.op = .alloc t) (hg : o.guard = none) (hr : ∀ w : World, (Instr.alloc t true (.tuple #[])).run P w = .ok (.pointer (some ⟨w.heap.size, 0, none⟩)) (w.alloc (.cells z t)))
    (hcalm : ∀ F : World → Prop, Pres F → Nonempty (RegrownF w F) → wpQuiet P l.toArray (fun w' => ∃ p : RegrownF w F, w' = grow (redrawn w p.d) p.os) (fun a' => a' = b) (l.take m) a)
    (h : ∀ g W, w.heap.size ≤ g → Below w.heap.size w W → Blk W g z t → wpList P l.toArray Q (l.drop (m + 1)) (b.put o.dst (.pointer (some ⟨g, 0, none⟩))) W) : (Code.region id l.toArray true).wp P Q a w := by
  refine wp_region_fresh m1 m [(z, t)] b hm hB hp hQ hcalm ?_
  show wpNews P w _ ((l.drop m).take 1) _ _ _
  rw [ho]
  exact ⟨⟨hop, hr⟩, hg, fun g hg _ W hW => h g W hg hW.below (hW.news g (z, t) (by unfold News.add; rw [if_pos rfl])).1⟩
/-- Two new variables. -/
theorem wp_region_fresh2 {id : Nat} {Q : Exit → Act → World → Prop} {a : Act} {w : World} {l : List Oper} (m1 m : Nat) (z z' : Array Value) (t t' : TypeId) (b : Act) (o o' : Oper) (hm : P.follows .mixedOrders = true) (hB : freshB l m1 m (m + 2) = true) (hp : plainB a.tmps.size (l.take m) = true) (hQ : ∀ c (a a' : Act) w, a'.defers = a.defers → Q (.panic c) a w → Q (.panic c) a' w)
    (ho : (l.drop m).take 2 = [o, o']) (hop : o.op = .alloc t) (hop' : o'.op = .alloc t') (hg : o.guard = none) (hg' : o'.guard = none) (hr : ∀ w : World, (Instr.alloc t true (.tuple #[])).run P w = .ok (.pointer (some ⟨w.heap.size, 0, none⟩)) (w.alloc (.cells z t)))
    (hr' : ∀ w : World, (Instr.alloc t' true (.tuple #[])).run P w = .ok (.pointer (some ⟨w.heap.size, 0, none⟩)) (w.alloc (.cells z' t')))
    (hcalm : ∀ F : World → Prop, Pres F → Nonempty (RegrownF w F) → wpQuiet P l.toArray (fun w' => ∃ p : RegrownF w F, w' = grow (redrawn w p.d) p.os) (fun a' => a' = b) (l.take m) a)
    (h : ∀ g g' W, w.heap.size ≤ g → w.heap.size ≤ g' → g ≠ g' → Below w.heap.size w W → Blk W g z t → Blk W g' z' t' → wpList P l.toArray Q (l.drop (m + 2)) ((b.put o.dst (.pointer (some ⟨g, 0, none⟩))).put o'.dst (.pointer (some ⟨g', 0, none⟩))) W) : (Code.region id l.toArray true).wp P Q a w := by
  refine wp_region_fresh m1 m [(z, t), (z', t')] b hm hB hp hQ hcalm ?_
  show wpNews P w _ ((l.drop m).take 2) _ _ _
  rw [ho]
  refine ⟨⟨hop, hr⟩, hg, fun g h1 _ => ⟨⟨hop', hr'⟩, hg', fun g' h2 h3 W hW => ?_⟩⟩
  have hne : g ≠ g' := fun e => by subst e; unfold News.add at h3; rw [if_pos rfl] at h3; cases h3
  exact h g g' W h1 h2 hne hW.below (hW.news g (z, t) (by unfold News.add; rw [if_neg hne, if_pos rfl])).1 (hW.news g' (z', t') (by unfold News.add; rw [if_pos rfl])).1
/-- The same, the act at the head's end left to the walk. -/
theorem wp_region_fresh1' {id : Nat} {Q : Exit → Act → World → Prop} {a : Act} {w : World} {l : List Oper} (m1 m : Nat) (z : Array Value) (t : TypeId) (o : Oper) (hm : P.follows .mixedOrders = true) (hB : freshB l m1 m (m + 1) = true) (hp : plainB a.tmps.size (l.take m) = true) (hQ : ∀ c (a a' : Act) w, a'.defers = a.defers → Q (.panic c) a w → Q (.panic c) a' w)
    (ho : (l.drop m).take 1 = [o]) (hop : o.op = .alloc t) (hg : o.guard = none) (hr : ∀ w : World, (Instr.alloc t true (.tuple #[])).run P w = .ok (.pointer (some ⟨w.heap.size, 0, none⟩)) (w.alloc (.cells z t)))
    (h : ∃ b, (∀ F : World → Prop, Pres F → Nonempty (RegrownF w F) → wpQuiet P l.toArray (fun w' => ∃ p : RegrownF w F, w' = grow (redrawn w p.d) p.os) (fun a' => a' = b) (l.take m) a) ∧
      ∀ g W, w.heap.size ≤ g → Below w.heap.size w W → Blk W g z t → wpList P l.toArray Q (l.drop (m + 1)) (b.put o.dst (.pointer (some ⟨g, 0, none⟩))) W) : (Code.region id l.toArray true).wp P Q a w :=
  let ⟨b, h1, h2⟩ := h
  wp_region_fresh1 m1 m z t b o hm hB hp hQ ho hop hg hr h1 h2
theorem wp_region_fresh2' {id : Nat} {Q : Exit → Act → World → Prop} {a : Act} {w : World} {l : List Oper} (m1 m : Nat) (z z' : Array Value) (t t' : TypeId) (o o' : Oper) (hm : P.follows .mixedOrders = true) (hB : freshB l m1 m (m + 2) = true) (hp : plainB a.tmps.size (l.take m) = true) (hQ : ∀ c (a a' : Act) w, a'.defers = a.defers → Q (.panic c) a w → Q (.panic c) a' w)
    (ho : (l.drop m).take 2 = [o, o']) (hop : o.op = .alloc t) (hop' : o'.op = .alloc t') (hg : o.guard = none) (hg' : o'.guard = none) (hr : ∀ w : World, (Instr.alloc t true (.tuple #[])).run P w = .ok (.pointer (some ⟨w.heap.size, 0, none⟩)) (w.alloc (.cells z t)))
    (hr' : ∀ w : World, (Instr.alloc t' true (.tuple #[])).run P w = .ok (.pointer (some ⟨w.heap.size, 0, none⟩)) (w.alloc (.cells z' t')))
    (h : ∃ b, (∀ F : World → Prop, Pres F → Nonempty (RegrownF w F) → wpQuiet P l.toArray (fun w' => ∃ p : RegrownF w F, w' = grow (redrawn w p.d) p.os) (fun a' => a' = b) (l.take m) a) ∧
      ∀ g g' W, w.heap.size ≤ g → w.heap.size ≤ g' → g ≠ g' → Below w.heap.size w W → Blk W g z t → Blk W g' z' t' → wpList P l.toArray Q (l.drop (m + 2)) ((b.put o.dst (.pointer (some ⟨g, 0, none⟩))).put o'.dst (.pointer (some ⟨g', 0, none⟩))) W) : (Code.region id l.toArray true).wp P Q a w :=
  let ⟨b, h1, h2⟩ := h
  wp_region_fresh2 m1 m z z' t t' b o o' hm hB hp hQ ho hop hop' hg hg' hr hr' h1 h2
end
end Go.Proofs.Ytokjmdlklhkjlaa
