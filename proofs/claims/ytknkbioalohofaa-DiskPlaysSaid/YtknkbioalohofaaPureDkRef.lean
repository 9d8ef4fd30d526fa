/- The document's list of files: what Put and Drop make of it is what the pure disk's steps make of it. In plain Lean. -/
import Derived.Test.YtknkbioalohofaaPureDisk2
import Derived.WideShapes
namespace Go.Proofs.Ytknkbioalohofaa
open Go.WideShapes Go.WideAt
namespace D
theorem less_before : ∀ a b : List UInt8, Op.bytesLess a b = bytesBefore a b
  | [], [] => rfl
  | [], _ :: _ => rfl
  | _ :: _, [] => rfl
  | x :: a, y :: b => by
    show (decide (x < y) || (x == y && Op.bytesLess a b)) = (decide (x < y) || (x == y && bytesBefore a b))
    rw [less_before a b]
theorem before_asymm {a b : List UInt8} (h : bytesBefore a b = true) : bytesBefore b a = false := by
  cases h2 : bytesBefore b a with
  | false => rfl
  | true =>
    have := bytes_trans a b a h h2
    rw [bytes_irrefl] at this
    cases this
/-- The loop of Put: a file goes to its place, or takes that of one of its name. -/
def putGo (f : Fl) : Bool → List Fl → List Fl
  | d, [] => if d = true then [] else [f]
  | d, x :: r => (if d = false ∧ bytesBefore x.name f.name = false then [f] else []) ++ ((if x.name = f.name then [] else [x]) ++ putGo f (d || !bytesBefore x.name f.name) r)
theorem drp_cons (n : List UInt8) (x : Fl) (r : List Fl) : drp Fl.name n (x :: r) = (if x.name = n then [] else [x]) ++ drp Fl.name n r := by
  unfold drp
  rw [List.filter_cons]
  by_cases h : x.name = n
  · rw [if_pos h]; simp [h]
  · rw [if_neg h]; simp [h]
theorem putGo_done (f : Fl) : ∀ l, putGo f true l = drp Fl.name f.name l
  | [] => rfl
  | x :: r => by
    have ih := putGo_done f r
    rw [drp_cons]
    unfold putGo
    rw [if_neg (by simp), List.nil_append, Bool.true_or, ih]
theorem ins_first {f : Fl} {l : List Fl} (h : ∀ y ∈ l, bytesBefore f.name y.name = true) : ins Fl.name f l = f :: l := by
  cases l with
  | nil => rfl
  | cons y r => unfold ins; rw [if_pos (h y (List.mem_cons_self ..))]
theorem Rise.tail {x : Fl} {r : List Fl} (h : Rise Fl.name (x :: r)) : Rise Fl.name r := (List.pairwise_cons.1 h).2
theorem putGo_eq (f : Fl) : ∀ l, Rise Fl.name l → putGo f false l = ins Fl.name f (drp Fl.name f.name l)
  | [], _ => rfl
  | x :: r, h => by
    have ih := putGo_eq f r h.tail
    have hx := (List.pairwise_cons.1 h).1
    rw [drp_cons]
    unfold putGo
    cases hb : bytesBefore x.name f.name with
    | true =>
      have hne : x.name ≠ f.name := fun e => by rw [e, bytes_irrefl] at hb; cases hb
      rw [if_neg (by simp), if_neg hne, Bool.not_true, Bool.or_false, ih, List.nil_append]
      show x :: ins Fl.name f (drp Fl.name f.name r) = ins Fl.name f (x :: drp Fl.name f.name r)
      conv => rhs; unfold ins
      rw [if_neg (by rw [before_asymm hb]; simp)]
    | false =>
      rw [if_pos ⟨rfl, rfl⟩, Bool.not_false, Bool.or_true, putGo_done]
      by_cases hne : x.name = f.name
      · rw [if_pos hne, List.nil_append, ins_first]
        · rfl
        · intro y hy
          have := hx y ((mem_drp Fl.name).1 hy).1
          rwa [hne] at this
      · have hf : bytesBefore f.name x.name = true := (bytes_total _ _ hne).resolve_left (by rw [hb]; simp)
        rw [if_neg hne]
        show f :: x :: drp Fl.name f.name r = ins Fl.name f (x :: drp Fl.name f.name r)
        unfold ins
        rw [if_pos hf]
theorem rise_ne {l : List Fl} (h : Rise Fl.name l) : l.Pairwise fun x y => x.name ≠ y.name := h.imp fun {a b} hab e => by rw [e, bytes_irrefl] at hab; cases hab
theorem ins_upd {n : List UInt8} {f : Fl} (hf : f.name = n) : ∀ {l : List Fl} {y : Fl}, Rise Fl.name l → fnd Fl.name n l = some y → ins Fl.name f (drp Fl.name n l) = upd Fl.name n (fun _ => f) l
  | x :: r, y, h, hy => by
    have hx := (List.pairwise_cons.1 h).1
    rw [fnd_cons] at hy
    rw [drp_cons]
    by_cases he : x.name = n
    · have hr : ∀ z ∈ r, bytesBefore n z.name = true := fun z hz => by have := hx z hz; rwa [he] at this
      have hn : fnd Fl.name n r = none := by
        unfold fnd
        rw [List.find?_eq_none]
        intro z hz
        have := hr z hz
        simp
        intro e
        rw [e, bytes_irrefl] at this
        cases this
      rw [if_pos he, List.nil_append, drp_none Fl.name hn, ins_first (fun z hz => by rw [hf]; exact hr z hz)]
      have := upd_none Fl.name (g := fun _ => f) hn
      unfold upd at this ⊢
      rw [List.map_cons, this]
      simp [he]
    · have e2 : (x.name == n) = false := by simp [he]
      rw [e2] at hy
      have hy' : fnd Fl.name n r = some y := hy
      have hm := fnd_mem Fl.name hy'
      have hb : bytesBefore x.name n = true := by have := hx y hm.1; rwa [hm.2] at this
      have ih := ins_upd hf h.tail hy'
      rw [if_neg he]
      show ins Fl.name f (x :: drp Fl.name n r) = _
      unfold ins
      rw [hf, if_neg (by rw [before_asymm hb]; simp), ih]
      unfold upd
      rw [List.map_cons]
      simp [he]
theorem upd_same {n : List UInt8} {g : Fl → Fl} : ∀ {l : List Fl} {y : Fl}, Rise Fl.name l → fnd Fl.name n l = some y → upd Fl.name n g l = upd Fl.name n (fun _ => g y) l := by
  intro l y h hy
  unfold upd
  apply List.map_congr_left
  intro z hz
  by_cases hn : z.name = n
  · have : z = y := by
      have hm := fnd_mem Fl.name hy
      by_cases e : z = y
      · exact e
      · exfalso
        have hne := rise_ne h
        have : ∀ (l : List Fl), l.Pairwise (fun x y => x.name ≠ y.name) → z ∈ l → y ∈ l → z ≠ y → z.name ≠ y.name := by
          intro l hl hz hy hzy
          induction l with
          | nil => cases hz
          | cons x r ih =>
            obtain ⟨h1, h2⟩ := List.pairwise_cons.1 hl
            rcases List.mem_cons.1 hz with ez | hz
            · rcases List.mem_cons.1 hy with ey | hy
              · exact absurd (ez.trans ey.symm) hzy
              · rw [ez]; exact h1 y hy
            · rcases List.mem_cons.1 hy with ey | hy
              · rw [ey]; exact (h1 z hz).symm
              · exact ih h2 hz hy
        exact this l hne hz hm.1 e (hn.trans hm.2.symm)
    rw [this]
  · simp [hn]
/-- Put, where there is a file of the name, and where there is none. -/
theorem put_old {n : List UInt8} {l : List Fl} {y f : Fl} {g : Fl → Fl} (h : Rise Fl.name l) (hy : fnd Fl.name n l = some y) (hf : f.name = n) (hg : g y = f) : putGo f false l = upd Fl.name n g l := by
  rw [putGo_eq f l h, hf, ins_upd hf h hy, upd_same (g := g) h hy, hg]
theorem put_new {n : List UInt8} {l : List Fl} {f : Fl} (h : Rise Fl.name l) (hy : fnd Fl.name n l = none) (hf : f.name = n) : putGo f false l = ins Fl.name f l := by
  rw [putGo_eq f l h, hf, drp_none Fl.name hy]
theorem Rise.drp {l : List Fl} (n : List UInt8) (h : Rise Fl.name l) : Rise Fl.name (drp Fl.name n l) := h.sublist (List.filter_sublist ..)
end D
end Go.Proofs.Ytknkbioalohofaa
