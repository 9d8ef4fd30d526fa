/- A disk in plain Lean: what its calls make, case by case. -/
import Derived.Test.YtknkbioalohofaaPureDisk
namespace Go.Proofs.Ytknkbioalohofaa
namespace D
variable {M : Dk} {n b m : List UInt8} {f : Fl}
theorem append_dead (hd : M.dead = true) : append M n b = (M, 10) := by unfold append; rw [if_pos hd]
theorem append_bad (hd : M.dead = false) (hg : good n = false) : append M n b = (M, 1) := by unfold append; rw [if_neg (by simp [hd]), if_pos hg]
theorem append_full (hd : M.dead = false) (hg : good n = true) (h : M.room - (used M.files : Int) < (b.length : Int)) : append M n b = (M, 9) := by
  unfold append
  rw [if_neg (by simp [hd]), if_neg (by simp [hg])]
  cases fnd Fl.name n M.files with
  | none => exact if_pos (.inl h)
  | some _ => exact if_pos h
theorem append_many (hd : M.dead = false) (hg : good n = true) (hf : fnd Fl.name n M.files = none) (h : 4096 ≤ M.files.length) : append M n b = (M, 9) := by
  unfold append
  rw [if_neg (by simp [hd]), if_neg (by simp [hg]), hf]
  exact if_pos (.inr h)
theorem append_new (hd : M.dead = false) (hg : good n = true) (hf : fnd Fl.name n M.files = none) (h : (b.length : Int) ≤ M.room - (used M.files : Int)) (hm : M.files.length < 4096) :
    append M n b = ({ (deed M).1 with files := ins Fl.name ⟨n, b, 0⟩ M.files }, (deed M).2) := by
  unfold append
  rw [if_neg (by simp [hd]), if_neg (by simp [hg]), hf]
  exact if_neg (fun e => by rcases e with e | e <;> omega)
theorem append_old (hd : M.dead = false) (hg : good n = true) (hf : fnd Fl.name n M.files = some f) (h : (b.length : Int) ≤ M.room - (used M.files : Int)) :
    append M n b = ({ (deed M).1 with files := upd Fl.name n (fun f => { f with b := f.b ++ b }) M.files }, (deed M).2) := by
  unfold append
  rw [if_neg (by simp [hd]), if_neg (by simp [hg]), hf]
  exact if_neg (fun e => by omega)
theorem deed_calm (h : M.fuse < 0) : deed M = (M, 0) := by unfold deed; rw [if_neg (by omega), if_neg (by omega)]
theorem deed_last (h : M.fuse = 0) : deed M = ({ M with dead := true }, 10) := by unfold deed; rw [if_pos h]
theorem deed_more (h : 0 < M.fuse) : deed M = ({ M with fuse := M.fuse - 1 }, 0) := by unfold deed; rw [if_neg (by omega), if_pos h]
theorem sync_dead (hd : M.dead = true) : sync M n = (M, 10) := by unfold sync; rw [if_pos hd]
theorem sync_none (hd : M.dead = false) (hf : fnd Fl.name n M.files = none) : sync M n = (M, 7) := by unfold sync; rw [if_neg (by simp [hd]), hf]
theorem sync_ok (hd : M.dead = false) (hf : fnd Fl.name n M.files = some f) (he : (deed M).2 = 0) : sync M n = ({ (deed M).1 with files := upd Fl.name n (fun f => { f with sure := f.b.length }) M.files }, 0) := by
  unfold sync
  rw [if_neg (by simp [hd]), hf]
  exact if_pos he
theorem sync_dies (hd : M.dead = false) (hf : fnd Fl.name n M.files = some f) (he : (deed M).2 ≠ 0) : sync M n = deed M := by
  unfold sync
  rw [if_neg (by simp [hd]), hf]
  exact if_neg he
theorem rename_dead (hd : M.dead = true) : rename M n m = (M, 10) := by unfold rename; rw [if_pos hd]
theorem rename_bad (hd : M.dead = false) (hg : good m = false) : rename M n m = (M, 1) := by unfold rename; rw [if_neg (by simp [hd]), if_pos hg]
theorem rename_none (hd : M.dead = false) (hg : good m = true) (hf : fnd Fl.name n M.files = none) : rename M n m = (M, 7) := by unfold rename; rw [if_neg (by simp [hd]), if_neg (by simp [hg]), hf]
theorem rename_ok (hd : M.dead = false) (hg : good m = true) (hf : fnd Fl.name n M.files = some f) (he : (deed M).2 = 0) : rename M n m = ({ (deed M).1 with files := ins Fl.name { f with name := m } (drp Fl.name m (drp Fl.name n M.files)) }, 0) := by
  unfold rename
  rw [if_neg (by simp [hd]), if_neg (by simp [hg]), hf]
  exact if_pos he
theorem rename_dies (hd : M.dead = false) (hg : good m = true) (hf : fnd Fl.name n M.files = some f) (he : (deed M).2 ≠ 0) : rename M n m = deed M := by
  unfold rename
  rw [if_neg (by simp [hd]), if_neg (by simp [hg]), hf]
  exact if_neg he
theorem remove_dead (hd : M.dead = true) : remove M n = (M, 10) := by unfold remove; rw [if_pos hd]
theorem remove_none (hd : M.dead = false) (hf : fnd Fl.name n M.files = none) : remove M n = (M, 7) := by unfold remove; rw [if_neg (by simp [hd]), hf]
theorem remove_ok (hd : M.dead = false) (hf : fnd Fl.name n M.files = some f) (he : (deed M).2 = 0) : remove M n = ({ (deed M).1 with files := drp Fl.name n M.files }, 0) := by
  unfold remove
  rw [if_neg (by simp [hd]), hf]
  exact if_pos he
theorem remove_dies (hd : M.dead = false) (hf : fnd Fl.name n M.files = some f) (he : (deed M).2 ≠ 0) : remove M n = deed M := by
  unfold remove
  rw [if_neg (by simp [hd]), hf]
  exact if_neg he
theorem read_dead (hd : M.dead = true) : read M n = ([], 10) := by unfold read; rw [if_pos hd]
theorem read_none (hd : M.dead = false) (hf : fnd Fl.name n M.files = none) : read M n = ([], 7) := by unfold read; rw [if_neg (by simp [hd]), hf]
theorem read_some (hd : M.dead = false) (hf : fnd Fl.name n M.files = some f) : read M n = (f.b, 0) := by unfold read; rw [if_neg (by simp [hd]), hf]
end D
end Go.Proofs.Ytknkbioalohofaa
