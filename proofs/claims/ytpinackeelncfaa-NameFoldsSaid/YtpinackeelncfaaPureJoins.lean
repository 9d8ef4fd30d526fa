/- Plain laws: identities joined. -/
import Derived.Test.YtpinackeelncfaaPureApp
import Derived.Test.YtpinackeelncfaaWNCheck
namespace Go.Proofs.Ytpinackeelncfaa
open Go.RowKit
namespace N
/-- Do these runes stand, behind n ones of which the last is of kind last? -/
def okGo : List Nat → Nat → Nat → Bool
  | [], _, last => decide (last ≠ 3)
  | c :: t, n, last => decide (c ≠ 65533) && decide (n < 40) && !bad c last && okGo t (n + 1) (kind c)
theorem chk_ok : ∀ (l : List (Nat × Nat × Nat)) (n last len : Nat), (chk l n last len).2 = 0 ↔ okGo (l.map (·.1)) n last = true
  | [], n, last, len => by
    rw [chk]
    split <;> simp_all [okGo]
  | r :: t, n, last, len => by
    rw [chk, List.map_cons, okGo]
    by_cases h1 : r.1 = 65533
    · simp [h1]
    · rw [if_neg h1]
      by_cases h2 : 40 ≤ n
      · rw [if_pos h2]; simp [show ¬ n < 40 by omega]
      · rw [if_neg h2]
        by_cases h3 : bad r.1 last = true
        · rw [if_pos h3]; simp [h3]
        · rw [if_neg h3, chk_ok t (n + 1) (kind r.1) len]
          have h3' : bad r.1 last = false := by simpa using h3
          simp [h1, h3', show n < 40 by omega]
theorem check_ok (s : List UInt8) : (check s).2 = 0 ↔ s ≠ [] ∧ okGo (cds s) 0 3 = true := by
  rw [check]
  split
  · rename_i h; simp [h]
  · rename_i h
    rw [chk_ok]
    exact ⟨fun x => ⟨h, x⟩, fun x => x.2⟩
def okA : List Nat → Nat → Bool
  | [], _ => true
  | c :: t, last => decide (c ≠ 65533) && !bad c last && okA t (kind c)
def lastK : List Nat → Nat → Nat
  | [], last => last
  | c :: t, _ => lastK t (kind c)
theorem okGo_eq : ∀ (l : List Nat) (n last : Nat), okGo l n last = (okA l last && decide (l = [] ∨ n + l.length ≤ 40) && decide (lastK l last ≠ 3))
  | [], n, last => by rw [okGo, okA, lastK]; simp only [true_or, decide_true, Bool.and_self, Bool.true_and]
  | c :: t, n, last => by
    rw [okGo, okGo_eq t (n + 1) (kind c), okA, lastK]
    have e : (decide (n < 40) && decide (t = [] ∨ n + 1 + t.length ≤ 40)) = decide ((c :: t) = [] ∨ n + (c :: t).length ≤ 40) := by
      rw [Bool.eq_iff_iff]
      cases t with
      | nil => simp; omega
      | cons x t => simp; omega
    rw [← e]
    cases decide (c ≠ 65533) <;> cases decide (n < 40) <;> cases bad c last <;> cases okA t (kind c) <;> simp
theorem okA_app : ∀ (a b : List Nat) (last : Nat), okA (a ++ b) last = (okA a last && okA b (lastK a last))
  | [], b, last => by simp [okA, lastK]
  | c :: t, b, last => by rw [List.cons_append, okA, okA, lastK, okA_app t b (kind c)]; simp only [Bool.and_assoc]
theorem lastK_app : ∀ (a b : List Nat) (last : Nat), lastK (a ++ b) last = lastK b (lastK a last)
  | [], b, last => rfl
  | c :: t, b, last => by rw [List.cons_append, lastK, lastK, lastK_app t b (kind c)]
theorem okA_good : ∀ (l : List Nat) (last : Nat), okA l last = true → ∀ c ∈ l, c ≠ 65533
  | [], _, _, c, hc => by cases hc
  | x :: t, last, h, c, hc => by
    rw [okA] at h
    simp at h
    rcases List.mem_cons.1 hc with rfl | h2
    · exact h.1.1
    · exact okA_good t _ h.2 c h2
/-- In form, by its runes. -/
theorem check_ok2 (s : List UInt8) : (check s).2 = 0 ↔ okA (cds s) 3 = true ∧ (cds s).length ≤ 40 ∧ lastK (cds s) 3 ≠ 3 := by
  rw [check_ok, okGo_eq]
  constructor
  · rintro ⟨h0, h1⟩
    simp at h1
    refine ⟨h1.1.1, ?_, h1.2⟩
    rcases h1.1.2 with h | h
    · rw [h]; simp
    · exact h
  · rintro ⟨h1, h2, h3⟩
    refine ⟨?_, by simp [h1, h2, h3]⟩
    rintro rfl
    exact h3 rfl
theorem cds_low (j : UInt8) (b : List UInt8) (hj : j.toNat < 128) : cds (j :: b) = j.toNat :: cds b := by
  have h : rn (j :: b) = (j.toNat, 1) := by
    unfold rn rnc
    rw [if_pos (show ((j :: b).getD 0 0).toNat < 128 from hj)]
    rfl
  rw [cds_next (j :: b) (by simp), h]
  rfl
theorem okA_other : ∀ (l : List Nat) (last : Nat), last ≠ 3 → okA l 3 = true → okA l last = true
  | [], _, _, _ => rfl
  | c :: t, last, hl, h => by
    rw [okA] at h ⊢
    have hb : bad c last = true → bad c 3 = true := by
      unfold bad
      have : (last == 3) = false := by simpa using hl
      rw [this]
      cases (kind (c : Int) == 0) <;> cases (kind (c : Int) == 3) <;> cases great (c : Int) <;> simp
    cases hx : bad c last with
    | true => rw [hb hx] at h; simp at h
    | false =>
      simp at h ⊢
      exact ⟨h.1.1, h.2⟩
theorem lastK_other : ∀ (l : List Nat) (x y : Nat), l ≠ [] → lastK l x = lastK l y
  | [], _, _, h => absurd rfl h
  | _ :: _, _, _, _ => rfl
theorem joins_pure (a b : List UInt8) (j : UInt8) (ha : (check a).2 = 0) (hb : (check b).2 = 0) (hj : j = 46 ∨ j = 45 ∨ j = 95 ∨ j = 64 ∨ j = 43) :
    ((check (a ++ [j] ++ b)).2 = 0 ↔ (cds a).length + (cds b).length < 40) ∧ ((check (a ++ b)).2 = 0 ↔ (cds a).length + (cds b).length ≤ 40) ∧ (check (a ++ [j, j] ++ b)).2 ≠ 0 := by
  rw [check_ok2] at ha hb
  obtain ⟨a1, a2, a3⟩ := ha
  obtain ⟨b1, b2, b3⟩ := hb
  have hg := okA_good _ _ a1
  have hjl : j.toNat < 128 := by rcases hj with rfl | rfl | rfl | rfl | rfl <;> decide
  have hjk : kind (j.toNat : Int) = 3 := by rcases hj with rfl | rfl | rfl | rfl | rfl <;> decide
  have hjn : j.toNat ≠ 65533 := by omega
  have hjb : ∀ last, last ≠ 3 → bad j.toNat last = false := fun last h => by
    have : (last == 3) = false := by simpa using h
    unfold bad
    rw [hjk, this]
    rcases hj with rfl | rfl | rfl | rfl | rfl <;> decide
  have hbn : cds b ≠ [] := fun e => by rw [e] at b3; exact b3 rfl
  have hj3 : bad j.toNat 3 = true := by unfold bad; rw [hjk]; rfl
  refine ⟨?_, ?_, ?_⟩
  · rw [check_ok2, List.append_assoc, cds_app _ _ _ (Nat.le_refl _) hg, List.singleton_append, cds_low j b hjl, okA_app, lastK_app, okA, lastK, hjk, a1, hjb _ a3, b1]
    simp [hjn]
    exact ⟨fun h => by omega, fun h => ⟨by omega, b3⟩⟩
  · rw [check_ok2, cds_app _ _ _ (Nat.le_refl _) hg, okA_app, lastK_app, a1, okA_other _ _ a3 b1, lastK_other (cds b) _ 3 hbn]
    simp
    exact fun _ => b3
  · rw [Ne, check_ok2, List.append_assoc, cds_app _ _ _ (Nat.le_refl _) hg, List.cons_append, List.singleton_append, cds_low j _ hjl, cds_low j b hjl, okA_app, okA, okA, hjk, hj3]
    simp
end N
end Go.Proofs.Ytpinackeelncfaa
