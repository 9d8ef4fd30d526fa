/- A disk in plain Lean: what a call does to one file changes nothing of another one; how many bytes there are behind it. -/
import Derived.Test.YtknkbioalohofaaPureDisk2
namespace Go.Proofs.Ytknkbioalohofaa
namespace D
variable {M : Dk} {n m b q : List UInt8}
theorem append_keeps (h : n ≠ q) : fnd Fl.name q (append M n b).1.files = fnd Fl.name q M.files := by
  unfold append
  split
  · rfl
  · split
    · rfl
    · split
      · split
        · rfl
        · exact fnd_ins_other Fl.name (x := ⟨n, b, 0⟩) h _
      · split
        · rfl
        · exact fnd_upd_other (g := fun f => { f with b := f.b ++ b }) Fl.name (fun _ => rfl) (fun e => h e.symm) _
theorem sync_keeps (h : n ≠ q) : fnd Fl.name q (sync M n).1.files = fnd Fl.name q M.files := by
  unfold sync
  split
  · rfl
  · split
    · rfl
    · split
      · exact fnd_upd_other (g := fun f => { f with sure := f.b.length }) Fl.name (fun _ => rfl) (fun e => h e.symm) _
      · rw [deed_files]
theorem rename_keeps (h : n ≠ q) (h' : m ≠ q) : fnd Fl.name q (rename M n m).1.files = fnd Fl.name q M.files := by
  unfold rename
  split
  · rfl
  · split
    · rfl
    · split
      · rfl
      · rename_i f _
        split
        · show fnd Fl.name q (ins Fl.name { f with name := m } (drp Fl.name m (drp Fl.name n M.files))) = _
          rw [fnd_ins_other Fl.name (x := { f with name := m }) h', fnd_drp_other Fl.name (fun e => h' e.symm), fnd_drp_other Fl.name (fun e => h e.symm)]
        · rw [deed_files]
theorem remove_keeps (h : n ≠ q) : fnd Fl.name q (remove M n).1.files = fnd Fl.name q M.files := by
  unfold remove
  split
  · rfl
  · split
    · rfl
    · split
      · exact fnd_drp_other Fl.name (fun e => h e.symm) _
      · rw [deed_files]
theorem arm_files (z : Int) : (arm M z).files = M.files := by unfold arm; split <;> rfl
theorem spoil_keeps (t : Int) (y : UInt8) (h : n ≠ q) : fnd Fl.name q (spoil M n t y).1.files = fnd Fl.name q M.files := by
  unfold spoil
  split
  · rfl
  · split
    · rfl
    · exact fnd_upd_other (g := fun f => { f with b := f.b.set t.toNat (f.b.getD t.toNat 0 ^^^ y) }) Fl.name (fun _ => rfl) (fun e => h e.symm) _
theorem crash_sure (ks : List Int) {f : Fl} (hs : f.sure = f.b.length) (h : fnd Fl.name q M.files = some f) : fnd Fl.name q (crash M ks).files = some f := by
  obtain ⟨j, hj⟩ := fnd_crashL ks q 0 M.files
  show fnd Fl.name q (crashL ks 0 M.files) = _
  rw [hj, h]
  show some (crashF ks j f) = some f
  congr 1
  have hk : kOf ks j (f.b.length - f.sure + 1) = 0 := by have := kOf_lt ks j (f.b.length - f.sure + 1) (by omega); omega
  unfold crashF
  rw [hk, Nat.add_zero, hs, List.take_length]
  cases f
  simp only at hs
  rw [hs]
/-! ### how many bytes -/
theorem used_upd_same {g : Fl → Fl} (hg : ∀ f, (g f).b.length = f.b.length) : ∀ l : List Fl, used (upd Fl.name n g l) = used l
  | [] => rfl
  | y :: r => by
    have ih := used_upd_same hg r
    show used ((if (y.name == n) = true then g y else y) :: upd Fl.name n g r) = _
    rw [used_cons, used_cons, ih]
    congr 1
    split
    · exact hg y
    · rfl
theorem used_upd_app : ∀ l : List Fl, l.Pairwise (fun x y => x.name ≠ y.name) → used (upd Fl.name n (fun f => { f with b := f.b ++ b }) l) ≤ used l + b.length
  | [], _ => by simp [upd, used]
  | y :: r, h => by
    rw [List.pairwise_cons] at h
    show used ((if (y.name == n) = true then ({ y with b := y.b ++ b } : Fl) else y) :: upd Fl.name n _ r) ≤ _
    rw [used_cons, used_cons]
    by_cases hy : (y.name == n) = true
    · have hr : fnd Fl.name n r = none := by
        unfold fnd
        rw [List.find?_eq_none]
        intro z hz
        have := h.1 z hz
        rw [show y.name = n by simpa using hy] at this
        simpa using this.symm
      rw [upd_none Fl.name hr, if_pos hy]
      show (y.b ++ b).length + used r ≤ _
      rw [List.length_append]; omega
    · rw [if_neg hy]
      have := used_upd_app r h.2
      omega
theorem used_drp_mem : ∀ {l : List Fl} {f : Fl}, fnd Fl.name n l = some f → f.b.length + used (drp Fl.name n l) ≤ used l
  | [], f, h => by cases h
  | y :: r, f, h => by
    rw [fnd_cons] at h
    rw [used_cons]
    by_cases hy : (y.name == n) = true
    · rw [if_pos hy] at h
      injection h with h
      subst h
      have : drp Fl.name n (y :: r) = drp Fl.name n r := by unfold drp; rw [List.filter_cons, if_neg (by simpa using hy)]
      rw [this]
      have := used_drp n r
      omega
    · rw [if_neg hy] at h
      have : drp Fl.name n (y :: r) = y :: drp Fl.name n r := by unfold drp; rw [List.filter_cons, if_pos (by simpa using hy)]
      rw [this, used_cons]
      have := used_drp_mem h
      omega
theorem append_used (hn : M.files.Pairwise fun x y => x.name ≠ y.name) : used (append M n b).1.files ≤ used M.files + b.length := by
  unfold append
  split
  · exact Nat.le_add_right _ _
  · split
    · exact Nat.le_add_right _ _
    · split
      · split
        · exact Nat.le_add_right _ _
        · show used (ins Fl.name ⟨n, b, 0⟩ M.files) ≤ _
          rw [used_ins]
          show b.length + _ ≤ _
          omega
      · split
        · exact Nat.le_add_right _ _
        · exact used_upd_app _ hn
theorem sync_used : used (sync M n).1.files = used M.files := by
  unfold sync
  split
  · rfl
  · split
    · rfl
    · split
      · exact used_upd_same (g := fun f => { f with sure := f.b.length }) (fun _ => rfl) _
      · rw [deed_files]
theorem rename_used : used (rename M n m).1.files ≤ used M.files := by
  unfold rename
  split
  · exact Nat.le_refl _
  · split
    · exact Nat.le_refl _
    · split
      · exact Nat.le_refl _
      · rename_i f hf
        split
        · show used (ins Fl.name { f with name := m } (drp Fl.name m (drp Fl.name n M.files))) ≤ _
          rw [used_ins]
          have h1 := used_drp m (drp Fl.name n M.files)
          have h2 := used_drp_mem hf
          show f.b.length + _ ≤ _
          omega
        · rw [deed_files]; exact Nat.le_refl _
theorem remove_used : used (remove M n).1.files ≤ used M.files := by
  unfold remove
  split
  · exact Nat.le_refl _
  · split
    · exact Nat.le_refl _
    · split
      · exact used_drp n _
      · rw [deed_files]; exact Nat.le_refl _
theorem spoil_used (t : Int) (y : UInt8) : used (spoil M n t y).1.files = used M.files := by
  unfold spoil
  split
  · rfl
  · split
    · rfl
    · exact used_upd_same (fun f => by show (f.b.set _ _).length = _; rw [List.length_set]) _
theorem crash_used (ks : List Int) : used (crash M ks).files ≤ used M.files := used_crashL ks 0 _
end D
end Go.Proofs.Ytknkbioalohofaa
