/- A disk in plain Lean: files by rising names, what each call makes of them. -/
import Derived.Maps.OwnSet
namespace Go.Proofs.Ytknkbioalohofaa
namespace D
section
variable {α : Type} (key : α → List UInt8)
/-- Into its place among rising names. -/
def ins (x : α) : List α → List α
  | [] => [x]
  | y :: r => if bytesBefore (key x) (key y) then x :: y :: r else y :: ins x r
def drp (n : List UInt8) (l : List α) : List α := l.filter fun y => !(key y == n)
def fnd (n : List UInt8) (l : List α) : Option α := l.find? fun y => key y == n
def upd (n : List UInt8) (g : α → α) (l : List α) : List α := l.map fun y => if key y == n then g y else y
def Rise (l : List α) : Prop := l.Pairwise fun x y => bytesBefore (key x) (key y) = true

theorem ins_perm (x : α) : ∀ l : List α, (ins key x l).Perm (x :: l)
  | [] => List.Perm.refl _
  | y :: r => by
    unfold ins
    split
    · exact List.Perm.refl _
    · exact ((ins_perm x r).cons y).trans (List.Perm.swap x y r)
theorem ins_length (x : α) (l : List α) : (ins key x l).length = l.length + 1 := by rw [(ins_perm key x l).length_eq]; rfl
theorem mem_ins {x y : α} {l : List α} : y ∈ ins key x l ↔ y = x ∨ y ∈ l := by rw [(ins_perm key x l).mem_iff, List.mem_cons]
theorem mem_drp {n : List UInt8} {y : α} {l : List α} : y ∈ drp key n l ↔ y ∈ l ∧ key y ≠ n := by
  unfold drp; rw [List.mem_filter]; simp
theorem fnd_mem {n : List UInt8} {y : α} {l : List α} (h : fnd key n l = some y) : y ∈ l ∧ key y = n := by
  unfold fnd at h
  exact ⟨List.mem_of_find?_eq_some h, by have := List.find?_some h; simpa using this⟩
theorem fnd_none {n : List UInt8} {l : List α} (h : fnd key n l = none) : ∀ y ∈ l, key y ≠ n := by
  intro y hy
  unfold fnd at h
  rw [List.find?_eq_none] at h
  simpa using h y hy
theorem drp_none {n : List UInt8} {l : List α} (h : fnd key n l = none) : drp key n l = l := by
  unfold drp
  rw [List.filter_eq_self]
  intro y hy
  simp [fnd_none key h y hy]
theorem fnd_drp_same (n : List UInt8) (l : List α) : fnd key n (drp key n l) = none := by
  unfold fnd
  rw [List.find?_eq_none]
  intro y hy
  simpa using ((mem_drp key).1 hy).2
theorem fnd_cons (n : List UInt8) (y : α) (l : List α) : fnd key n (y :: l) = if key y == n then some y else fnd key n l := by
  unfold fnd
  rw [List.find?_cons]
  cases key y == n <;> rfl
theorem fnd_drp_other {n m : List UInt8} (hne : m ≠ n) : ∀ l : List α, fnd key m (drp key n l) = fnd key m l
  | [] => rfl
  | y :: r => by
    have ih := fnd_drp_other hne r
    unfold drp at ih ⊢
    rw [List.filter_cons]
    by_cases hy : key y = n
    · have e1 : (!(key y == n)) = false := by simp [hy]
      have e2 : (key y == m) = false := by rw [hy]; rw [beq_eq_false_iff_ne]; exact fun e => hne e.symm
      rw [e1, fnd_cons, e2]
      exact ih
    · have e1 : (!(key y == n)) = true := by simp [hy]
      rw [e1, if_pos rfl, fnd_cons, fnd_cons, ih]
theorem fnd_ins_other {m : List UInt8} {x : α} (hne : key x ≠ m) : ∀ l : List α, fnd key m (ins key x l) = fnd key m l
  | [] => by
    have e2 : (key x == m) = false := by rw [beq_eq_false_iff_ne]; exact hne
    show fnd key m [x] = fnd key m []
    rw [fnd_cons, e2]; rfl
  | y :: r => by
    have e2 : (key x == m) = false := by rw [beq_eq_false_iff_ne]; exact hne
    unfold ins
    split
    · rw [fnd_cons, e2]; rfl
    · rw [fnd_cons, fnd_cons, fnd_ins_other hne r]
theorem fnd_ins_same {x : α} : ∀ l : List α, fnd key (key x) l = none → fnd key (key x) (ins key x l) = some x
  | [], _ => by
    show fnd key (key x) [x] = some x
    rw [fnd_cons]; simp
  | y :: r, h => by
    have hy : (key y == key x) = false := by rw [beq_eq_false_iff_ne]; exact fnd_none key h y List.mem_cons_self
    rw [fnd_cons, hy] at h
    unfold ins
    split
    · rw [fnd_cons]; simp
    · rw [fnd_cons, hy]
      exact fnd_ins_same r h
theorem fnd_upd_same {n : List UInt8} {g : α → α} (hg : ∀ y, key (g y) = key y) : ∀ l : List α, fnd key n (upd key n g l) = (fnd key n l).map g
  | [] => rfl
  | y :: r => by
    have ih := fnd_upd_same (n := n) hg r
    unfold upd at ih ⊢
    rw [List.map_cons, fnd_cons, fnd_cons]
    by_cases hy : (key y == n) = true
    · rw [if_pos hy, hg, hy]; rfl
    · have hy' : (key y == n) = false := by simpa using hy
      rw [if_neg hy, hy']
      exact ih
theorem fnd_upd_other {n m : List UInt8} {g : α → α} (hg : ∀ y, key (g y) = key y) (hne : m ≠ n) : ∀ l : List α, fnd key m (upd key n g l) = fnd key m l
  | [] => rfl
  | y :: r => by
    have ih := fnd_upd_other hg hne r
    unfold upd at ih ⊢
    rw [List.map_cons, fnd_cons, fnd_cons, ih]
    by_cases hy : (key y == n) = true
    · have e : key y = n := by simpa using hy
      have e2 : (key y == m) = false := by rw [e, beq_eq_false_iff_ne]; exact fun h => hne h.symm
      rw [if_pos hy, hg, e2]
      simp
    · rw [if_neg hy]
theorem upd_none {n : List UInt8} {g : α → α} {l : List α} (h : fnd key n l = none) : upd key n g l = l := by
  unfold upd
  conv => rhs; rw [← List.map_id l]
  apply List.map_congr_left
  intro y hy
  have := fnd_none key h y hy
  simp [this]
theorem upd_keys (n : List UInt8) {g : α → α} (hg : ∀ y, key (g y) = key y) (l : List α) : (upd key n g l).map key = l.map key := by
  unfold upd
  rw [List.map_map]
  apply List.map_congr_left
  intro y _
  show key (if _ then _ else _) = key y
  split
  · exact hg y
  · rfl
theorem upd_length (n : List UInt8) (g : α → α) (l : List α) : (upd key n g l).length = l.length := by unfold upd; rw [List.length_map]
end
section
variable {α β : Type} {key : α → List UInt8} {key' : β → List UInt8} {f : α → β} (hf : ∀ x, key' (f x) = key x)
include hf
theorem ins_map (x : α) : ∀ l : List α, (ins key x l).map f = ins key' (f x) (l.map f)
  | [] => rfl
  | y :: r => by
    rw [List.map_cons]
    unfold ins
    rw [hf, hf]
    split
    · rfl
    · rw [List.map_cons, ins_map x r]
theorem drp_map (n : List UInt8) (l : List α) : (drp key n l).map f = drp key' n (l.map f) := by
  unfold drp
  rw [List.filter_map]
  congr 1
  apply List.filter_congr
  intro y _
  simp [hf]
theorem fnd_map (n : List UInt8) (l : List α) : (fnd key n l).map f = fnd key' n (l.map f) := by
  unfold fnd
  rw [List.find?_map]
  congr 1
  congr 1
  funext y
  simp [hf]
theorem upd_map (n : List UInt8) {g : α → α} {g' : β → β} (hg : ∀ x, g' (f x) = f (g x)) (l : List α) : (upd key n g l).map f = upd key' n g' (l.map f) := by
  unfold upd
  rw [List.map_map, List.map_map]
  apply List.map_congr_left
  intro y _
  show f (if _ then _ else _) = if _ then _ else _
  rw [hf]
  split
  · exact (hg y).symm
  · rfl
end

/-- A file: its name, its bytes, how many of these are sure. -/
structure Fl where
  name : List UInt8
  b : List UInt8
  sure : Nat
deriving DecidableEq
structure Dk where
  room : Int
  fuse : Int
  dead : Bool
  files : List Fl
def used (l : List Fl) : Nat := (l.map fun f => f.b.length).sum
theorem used_nil : used [] = 0 := rfl
theorem used_cons (f : Fl) (l : List Fl) : used (f :: l) = f.b.length + used l := by simp [used]
theorem used_ins (x : Fl) (l : List Fl) : used (ins Fl.name x l) = x.b.length + used l := by
  unfold used
  rw [((ins_perm Fl.name x l).map _).sum_nat]
  simp
theorem used_drp (n : List UInt8) : ∀ l : List Fl, used (drp Fl.name n l) ≤ used l
  | [] => Nat.le_refl _
  | y :: r => by
    have ih := used_drp n r
    unfold drp at ih ⊢
    rw [List.filter_cons]
    split
    · rw [used_cons, used_cons]; omega
    · rw [used_cons]; omega
theorem used_mem {f : Fl} : ∀ {l : List Fl}, f ∈ l → f.b.length ≤ used l
  | y :: r, h => by
    rw [used_cons]
    rcases List.mem_cons.1 h with rfl | h
    · omega
    · have := used_mem h; omega
def good (n : List UInt8) : Bool := !n.isEmpty && decide (n.length ≤ 100)
def deed (M : Dk) : Dk × Nat :=
  if M.fuse = 0 then ({ M with dead := true }, 10) else if 0 < M.fuse then ({ M with fuse := M.fuse - 1 }, 0) else (M, 0)
theorem deed_files (M : Dk) : (deed M).1.files = M.files := by unfold deed; split; rfl; split <;> rfl
theorem deed_room (M : Dk) : (deed M).1.room = M.room := by unfold deed; split; rfl; split <;> rfl
def append (M : Dk) (n b : List UInt8) : Dk × Nat :=
  if M.dead = true then (M, 10)
  else if good n = false then (M, 1)
  else match fnd Fl.name n M.files with
    | none => if M.room - (used M.files : Int) < (b.length : Int) ∨ 4096 ≤ M.files.length then (M, 9) else ({ (deed M).1 with files := ins Fl.name ⟨n, b, 0⟩ M.files }, (deed M).2)
    | some _ => if M.room - (used M.files : Int) < (b.length : Int) then (M, 9) else ({ (deed M).1 with files := upd Fl.name n (fun f => { f with b := f.b ++ b }) M.files }, (deed M).2)
def sync (M : Dk) (n : List UInt8) : Dk × Nat :=
  if M.dead = true then (M, 10)
  else match fnd Fl.name n M.files with
    | none => (M, 7)
    | some _ => if (deed M).2 = 0 then ({ (deed M).1 with files := upd Fl.name n (fun f => { f with sure := f.b.length }) M.files }, 0) else deed M
def rename (M : Dk) (n m : List UInt8) : Dk × Nat :=
  if M.dead = true then (M, 10)
  else if good m = false then (M, 1)
  else match fnd Fl.name n M.files with
    | none => (M, 7)
    | some f => if (deed M).2 = 0 then ({ (deed M).1 with files := ins Fl.name { f with name := m } (drp Fl.name m (drp Fl.name n M.files)) }, 0) else deed M
def remove (M : Dk) (n : List UInt8) : Dk × Nat :=
  if M.dead = true then (M, 10)
  else match fnd Fl.name n M.files with
    | none => (M, 7)
    | some _ => if (deed M).2 = 0 then ({ (deed M).1 with files := drp Fl.name n M.files }, 0) else deed M
def read (M : Dk) (n : List UInt8) : List UInt8 × Nat :=
  if M.dead = true then ([], 10)
  else match fnd Fl.name n M.files with
    | none => ([], 7)
    | some f => (f.b, 0)
def list (M : Dk) : List (List UInt8) := if M.dead = true then [] else M.files.map Fl.name
def arm (M : Dk) (n : Int) : Dk := if M.dead = true then M else { M with fuse := max n (-1) }
/-- How many bytes more stay of n - 1 that may go. -/
def kOf (keeps : List Int) (i n : Nat) : Nat := if keeps.length = 0 then 0 else (keeps.getD (i % keeps.length) 0 % (n : Int)).toNat
def crashF (keeps : List Int) (i : Nat) (f : Fl) : Fl :=
  { f with b := f.b.take (f.sure + kOf keeps i (f.b.length - f.sure + 1)), sure := f.sure + kOf keeps i (f.b.length - f.sure + 1) }
def crashL (keeps : List Int) : Nat → List Fl → List Fl
  | _, [] => []
  | i, f :: r => crashF keeps i f :: crashL keeps (i + 1) r
def crash (M : Dk) (keeps : List Int) : Dk := { room := M.room, fuse := -1, dead := false, files := crashL keeps 0 M.files }
def spoil (M : Dk) (n : List UInt8) (at_ : Int) (x : UInt8) : Dk × Nat :=
  match fnd Fl.name n M.files with
  | none => (M, 7)
  | some f => if at_ < 0 ∨ (f.b.length : Int) ≤ at_ then (M, 1) else ({ M with files := upd Fl.name n (fun f => { f with b := f.b.set at_.toNat (f.b.getD at_.toNat 0 ^^^ x) }) M.files }, 0)

theorem kOf_lt (keeps : List Int) (i n : Nat) (hn : 0 < n) : kOf keeps i n < n := by
  unfold kOf
  split
  · exact hn
  · have h1 := Int.emod_lt_of_pos (keeps.getD (i % keeps.length) 0) (by omega : (0 : Int) < (n : Int))
    have h2 := Int.emod_nonneg (keeps.getD (i % keeps.length) 0) (by omega : (n : Int) ≠ 0)
    omega
theorem crashF_name (keeps : List Int) (i : Nat) (f : Fl) : (crashF keeps i f).name = f.name := rfl
theorem crashL_names (keeps : List Int) : ∀ (i : Nat) (l : List Fl), (crashL keeps i l).map Fl.name = l.map Fl.name
  | _, [] => rfl
  | i, f :: r => by
    show (crashF keeps i f).name :: (crashL keeps (i + 1) r).map Fl.name = f.name :: r.map Fl.name
    rw [crashL_names keeps (i + 1) r]; rfl
theorem crashL_length (keeps : List Int) : ∀ (i : Nat) (l : List Fl), (crashL keeps i l).length = l.length
  | _, [] => rfl
  | i, _ :: r => congrArg (· + 1) (crashL_length keeps (i + 1) r)
theorem crashL_get (keeps : List Int) : ∀ (i j : Nat) (l : List Fl), (crashL keeps i l)[j]? = (l[j]?).map (crashF keeps (i + j))
  | _, _, [] => by simp [crashL]
  | _, 0, _ :: _ => rfl
  | i, j + 1, _ :: r => by
    show (crashL keeps (i + 1) r)[j]? = (r[j]?).map _
    rw [crashL_get keeps (i + 1) j r, show i + 1 + j = i + (j + 1) by omega]
theorem crashF_le (keeps : List Int) (i : Nat) (f : Fl) (h : f.sure ≤ f.b.length) : f.sure ≤ (crashF keeps i f).sure ∧ (crashF keeps i f).b.length = (crashF keeps i f).sure ∧ (crashF keeps i f).sure ≤ f.b.length := by
  have := kOf_lt keeps i (f.b.length - f.sure + 1) (by omega)
  refine ⟨Nat.le_add_right _ _, ?_, ?_⟩
  · show (f.b.take _).length = _
    rw [List.length_take]
    show min (f.sure + kOf keeps i (f.b.length - f.sure + 1)) _ = f.sure + kOf keeps i (f.b.length - f.sure + 1)
    omega
  · show f.sure + kOf keeps i (f.b.length - f.sure + 1) ≤ _
    omega
theorem fnd_crashL (keeps : List Int) (n : List UInt8) : ∀ (i : Nat) (l : List Fl), ∃ j, fnd Fl.name n (crashL keeps i l) = (fnd Fl.name n l).map (crashF keeps j)
  | i, [] => ⟨i, rfl⟩
  | i, f :: r => by
    obtain ⟨j, hj⟩ := fnd_crashL keeps n (i + 1) r
    by_cases hf : (f.name == n) = true
    · exact ⟨i, by show fnd Fl.name n (crashF keeps i f :: crashL keeps (i + 1) r) = _; rw [fnd_cons, fnd_cons, crashF_name, hf]; rfl⟩
    · exact ⟨j, by
        have hf' : (f.name == n) = false := by simpa using hf
        show fnd Fl.name n (crashF keeps i f :: crashL keeps (i + 1) r) = _
        rw [fnd_cons, fnd_cons, crashF_name, hf']; exact hj⟩
theorem used_crashL (keeps : List Int) : ∀ (i : Nat) (l : List Fl), used (crashL keeps i l) ≤ used l
  | _, [] => Nat.le_refl _
  | i, f :: r => by
    show used (crashF keeps i f :: crashL keeps (i + 1) r) ≤ _
    rw [used_cons, used_cons]
    have := used_crashL keeps (i + 1) r
    have h : (crashF keeps i f).b.length ≤ f.b.length := by show (f.b.take _).length ≤ _; rw [List.length_take]; omega
    omega
end D

/-! ### the map's datum -/
namespace D
abbrev Ent := Fl × Nat
def kE (x : Ent) : List UInt8 := x.1.name
def ent (x : Ent) : Lit × DataW Unit := (.string x.1.name, .lit (.int .i64 (x.2 : Int)))
def datum (l : List Ent) : DataW Unit := .map (l.map ent)
theorem datum_ins (x : Ent) : ∀ l : List Ent, DataW.insert (ent x) (l.map ent) = (ins kE x l).map ent
  | [] => rfl
  | y :: r => by
    show (if Lit.before (.string x.1.name) (.string y.1.name) then _ else _) = _
    unfold ins
    show (if bytesBefore x.1.name y.1.name = true then _ else _) = List.map ent (if bytesBefore x.1.name y.1.name = true then _ else _)
    split
    · rfl
    · rw [List.map_cons, ← datum_ins x r]
theorem datum_drp (n : List UInt8) (l : List Ent) : (l.map ent).filter (fun p => !p.1.sameKey (.string n)) = (drp kE n l).map ent := by
  unfold drp
  rw [List.filter_map]
  rfl
theorem datum_put (x : Ent) (l : List Ent) : (datum l).put (.string x.1.name) (.lit (.int .i64 (x.2 : Int))) = datum (ins kE x (drp kE x.1.name l)) := by
  show DataW.map (DataW.insert (ent x) ((l.map ent).filter fun p => !p.1.sameKey (.string x.1.name))) = _
  rw [datum_drp, datum_ins]; rfl
theorem datum_del (n : List UInt8) (l : List Ent) : (datum l).del (.string n) = datum (drp kE n l) := by
  show DataW.map ((l.map ent).filter fun p => !p.1.sameKey (.string n)) = _
  rw [datum_drp]; rfl
theorem datum_at (n : List UInt8) (l : List Ent) (z : DataW Unit) : (datum l).atKey (.string n) z = match fnd kE n l with | some x => .lit (.int .i64 (x.2 : Int)) | none => z := by
  unfold datum DataW.atKey
  simp only [List.find?_map]
  have : (fun p : Lit × DataW Unit => p.1.sameKey (.string n)) ∘ ent = fun y => kE y == n := by funext y; rfl
  rw [this]
  unfold fnd
  cases List.find? (fun y => kE y == n) l <;> rfl
theorem datum_size (l : List Ent) : Maps.size (datum l) = l.length := by
  show (l.map ent).length = _
  rw [List.length_map]
theorem fnd_fst (n : List UInt8) (l : List Ent) : (fnd kE n l).map Prod.fst = fnd Fl.name n (l.map Prod.fst) := fnd_map (key := kE) (key' := Fl.name) (f := Prod.fst) (fun _ => rfl) n l
end D
end Go.Proofs.Ytknkbioalohofaa
