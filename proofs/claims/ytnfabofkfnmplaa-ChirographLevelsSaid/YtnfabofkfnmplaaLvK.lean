/- Files of levels and entries as values; rows of them; strings compared. -/
import Derived.Test.YtnfabofkfnmplaaLKitR
import Derived.Test.YtnfabofkfnmplaaPureLvD
import Derived.Test.YtnfabofkfnmplaaRel
import Derived.Maps.RangeWalk
namespace Go.Proofs.Ytnfabofkfnmplaa
open Go.RowKit

namespace L
theorem less_before : ∀ a b : List UInt8, Op.bytesLess a b = bytesBefore a b
  | [], [] => rfl
  | [], _ :: _ => rfl
  | _ :: _, [] => rfl
  | x :: a, y :: b => by
    show (decide (x < y) || (x == y && Op.bytesLess a b)) = (decide (x < y) || (x == y && bytesBefore a b))
    rw [less_before a b]
theorem B_or (x y : List UInt8) : (bytesBefore x y || x == y) = !B y x := by
  by_cases h : x = y
  · subst h
    rw [B_irr x]; simp
  · have h1 : (x == y) = false := by rw [beq_eq_false_iff_ne]; exact h
    rw [h1, Bool.or_false]
    cases hb : B y x with
    | true => exact B_as hb
    | false => exact B_nl hb (fun e => h e.symm)
end L
theorem str_lss (x y : List UInt8) (w : World) : (binOp .lss 9 (.string ⟨x.toArray⟩) (.string ⟨y.toArray⟩)).run Try.prog w = .ok (.bool (L.B x y)) w := by
  have h : (Op.stringOp .lss ⟨x.toArray⟩ ⟨y.toArray⟩).run Try.prog w = .ok (.bool (L.B x y)) w := by
    unfold Op.stringOp
    simp only [str_list, L.less_before]
    rfl
  exact h
theorem str_gtr (x y : List UInt8) (w : World) : (binOp .gtr 9 (.string ⟨x.toArray⟩) (.string ⟨y.toArray⟩)).run Try.prog w = .ok (.bool (L.B y x)) w := by
  have h : (Op.stringOp .gtr ⟨x.toArray⟩ ⟨y.toArray⟩).run Try.prog w = .ok (.bool (L.B y x)) w := by
    unfold Op.stringOp
    simp only [str_list, L.less_before, L.B_or, Bool.not_not]
    rfl
  exact h
theorem str_geq (x y : List UInt8) (w : World) : (binOp .geq 9 (.string ⟨x.toArray⟩) (.string ⟨y.toArray⟩)).run Try.prog w = .ok (.bool (!L.B x y)) w := by
  have h : (Op.stringOp .geq ⟨x.toArray⟩ ⟨y.toArray⟩).run Try.prog w = .ok (.bool (!L.B x y)) w := by
    unfold Op.stringOp
    simp only [str_list, L.less_before]
    rfl
  exact h
theorem str_leq (x y : List UInt8) (w : World) : (binOp .leq 9 (.string ⟨x.toArray⟩) (.string ⟨y.toArray⟩)).run Try.prog w = .ok (.bool (!L.B y x)) w := by
  have h : (Op.stringOp .leq ⟨x.toArray⟩ ⟨y.toArray⟩).run Try.prog w = .ok (.bool (!L.B y x)) w := by
    unfold Op.stringOp
    simp only [str_list, L.less_before, L.B_or]
    rfl
  exact h
/-- A file of a level; its row. -/
def fiC (f : L.Fi) : List Value := [.int .i64 (f.num : Int), .int .i64 (f.lev : Int), .int .i64 (f.size : Int), .string ⟨f.first.toArray⟩, .string ⟨f.last.toArray⟩]
def fiV (f : L.Fi) : Value := .agg #[.int .i64 (f.num : Int), .int .i64 (f.lev : Int), .int .i64 (f.size : Int), .string ⟨f.first.toArray⟩, .string ⟨f.last.toArray⟩]
def FRow (w : World) (v : Value) (l : List L.Fi) : Prop := RowN w 33 5 v (l.map fiC)
def FRead (w : World) (v : Value) (l : List L.Fi) : Prop := SReadN w 5 v (l.map fiC)
theorem info_fi : InfoN 33 (.agg #[.int .i64 0, .int .i64 0, .int .i64 0, .string ⟨#[]⟩, .string ⟨#[]⟩]) 5 56 := ⟨by kernel_rfl, rfl, by omega, by omega⟩
theorem size_fi : (Try.prog.info? 33).map (·.size) = some 5 := by kernel_rfl
/-- An entry; its row. -/
def enC (x : L.En) : List Value := [.string ⟨x.key.toArray⟩, .string ⟨x.val.toArray⟩, .bool x.gone]
def enV (x : L.En) : Value := .agg #[.string ⟨x.key.toArray⟩, .string ⟨x.val.toArray⟩, .bool x.gone]
def ERow (w : World) (v : Value) (l : List L.En) : Prop := RowN w 26 3 v (l.map enC)
def ERead (w : World) (v : Value) (l : List L.En) : Prop := SReadN w 3 v (l.map enC)
theorem info_en : InfoN 26 (.agg #[.string ⟨#[]⟩, .string ⟨#[]⟩, .bool false]) 3 40 := ⟨by kernel_rfl, rfl, by omega, by omega⟩
theorem und_en : Try.prog.underlying 23 = some (.slice 26) := by kernel_rfl
theorem size_en : (Try.prog.info? 26).map (·.size) = some 3 := by kernel_rfl
section
variable {w w' : World} {v : Value}
theorem FRead.at_ {l : List L.Fi} (h : FRead w v l) (hb : Below w.heap.size w w') : FRead w' v l := SReadN.at_ h hb
theorem ERead.at_ {l : List L.En} (h : ERead w v l) (hb : Below w.heap.size w w') : ERead w' v l := SReadN.at_ h hb
theorem fread_open {l : List L.Fi} (h : FRead w v l) : ∃ A c, v = .slice A l.length c ∧ l.length ≤ c ∧ FRead w (.slice A l.length c) l := by
  obtain ⟨A, c, rfl, h1, h2⟩ := sreadN_open h
  rw [List.length_map] at h1 h2 ⊢
  exact ⟨A, c, rfl, h1, h2⟩
theorem eread_open {l : List L.En} (h : ERead w v l) : ∃ A c, v = .slice A l.length c ∧ l.length ≤ c ∧ ERead w (.slice A l.length c) l := by
  obtain ⟨A, c, rfl, h1, h2⟩ := sreadN_open h
  rw [List.length_map] at h1 h2 ⊢
  exact ⟨A, c, rfl, h1, h2⟩
theorem fread_at {l : List L.Fi} {A : Option Addr} {n c k : Nat} {f : L.Fi} (h : FRead w (.slice A n c) l) (hk : l[k]? = some f) : ∃ g o, A = some ⟨g, o, none⟩ ∧ g < w.heap.size ∧ w.rangeAt g (o + k * 5) (fiC f) :=
  sreadN_at h (by rw [List.getElem?_map, hk]; rfl)
theorem eread_at {l : List L.En} {A : Option Addr} {n c k : Nat} {f : L.En} (h : ERead w (.slice A n c) l) (hk : l[k]? = some f) : ∃ g o, A = some ⟨g, o, none⟩ ∧ g < w.heap.size ∧ w.rangeAt g (o + k * 3) (enC f) :=
  sreadN_at h (by rw [List.getElem?_map, hk]; rfl)
theorem FRow.reads {l : List L.Fi} (h : FRow w v l) : FRead w v l := RowN.reads h
theorem ERow.reads {l : List L.En} (h : ERow w v l) : ERead w v l := RowN.reads h
theorem FRow.at_ {l : List L.Fi} (h : FRow w v l) (hb : Below w.heap.size w w') : FRow w' v l := RowN.at_ h hb
theorem ERow.at_ {l : List L.En} (h : ERow w v l) (hb : Below w.heap.size w w') : ERow w' v l := RowN.at_ h hb
theorem FRow.alloc {l : List L.Fi} (h : FRow w v l) (o : Obj) : FRow (w.alloc o) v l := RowN.alloc h o
theorem ERow.alloc {l : List L.En} (h : ERow w v l) (o : Obj) : ERow (w.alloc o) v l := RowN.alloc h o
theorem frow_snoc {l : List L.Fi} {f : L.Fi} (h : RowN w 33 5 v (l.map fiC ++ [fiC f])) : FRow w v (l ++ [f]) := by
  unfold FRow
  rw [List.map_append]
  exact h
theorem erow_snoc {l : List L.En} {f : L.En} (h : RowN w 26 3 v (l.map enC ++ [enC f])) : ERow w v (l ++ [f]) := by
  unfold ERow
  rw [List.map_append]
  exact h
theorem frow_open {l : List L.Fi} (h : FRow w v l) : ∃ A m c, v = .slice A m c ∧ m = l.length ∧ FRow w (.slice A m c) l := by
  obtain ⟨A, m, c, rfl, hm, h⟩ := rowN_open' h
  exact ⟨A, m, c, rfl, by rw [hm, List.length_map], h⟩
theorem erow_open {l : List L.En} (h : ERow w v l) : ∃ A m c, v = .slice A m c ∧ m = l.length ∧ ERow w (.slice A m c) l := by
  obtain ⟨A, m, c, rfl, hm, h⟩ := rowN_open' h
  exact ⟨A, m, c, rfl, by rw [hm, List.length_map], h⟩
theorem len_fiC (f : L.Fi) : ∀ x ∈ [fiC f], x.length = 5 := by intro x hx; rw [List.mem_singleton.1 hx]; rfl
theorem len_enC (f : L.En) : ∀ x ∈ [enC f], x.length = 3 := by intro x hx; rw [List.mem_singleton.1 hx]; rfl
theorem one_fiC (f : L.Fi) : ∀ u ∈ ([fiC f] : List (List Value)).flatten, u.oneCell' = true := by
  intro u hu
  simp [fiC] at hu
  rcases hu with rfl | rfl | rfl | rfl | rfl <;> rfl
theorem one_enC (f : L.En) : ∀ u ∈ ([enC f] : List (List Value)).flatten, u.oneCell' = true := by
  intro u hu
  simp [enC] at hu
  rcases hu with rfl | rfl | rfl <;> rfl
end
theorem new2 (w : World) (o : Obj) (x : List Value) (cs : Array Value) (hc : cs = x.toArray) (t : TypeId) : ∀ (j : Nat) (u : Value), ([x] : List (List Value)).flatten[j]? = some u → ((w.alloc o).alloc (.cells cs t)).cell? ((⟨w.heap.size + 1, 0, none⟩ : Addr).add j) = some u := by
  have := new_cellsN (w.alloc o) x cs hc t
  rw [World.size_alloc] at this
  exact this
theorem two_new (w : World) (a b : Array Value) (s t : TypeId) : Blk ((w.alloc (.cells a s)).alloc (.cells b t)) w.heap.size a s ∧ Blk ((w.alloc (.cells a s)).alloc (.cells b t)) (w.heap.size + 1) b t ∧ Below w.heap.size w ((w.alloc (.cells a s)).alloc (.cells b t)) := by
  have h := Blk.new (w.alloc (.cells a s)) b t
  rw [World.size_alloc] at h
  exact ⟨(Blk.new w a s).alloc _, h, (below_alloc1 w _).alloc (by rw [World.size_alloc]; omega) _⟩
theorem free3 {w : World} {g : Nat} {a b c : Value} {t : TypeId} (h : Blk w g #[a, b, c] t) : w.cell? ⟨g, 0, none⟩ = some a ∧ w.cell? ⟨g, 1, none⟩ = some b ∧ w.cell? ⟨g, 2, none⟩ = some c ∧ w.frozen? ⟨g, 0, none⟩ = false ∧ w.frozen? ⟨g, 1, none⟩ = false ∧ w.frozen? ⟨g, 2, none⟩ = false :=
  ⟨h.cellv rfl, h.cellv rfl, h.cellv rfl, h.free 0, h.free 1, h.free 2⟩
theorem free5 {w : World} {g : Nat} {a b c d e : Value} {t : TypeId} (h : Blk w g #[a, b, c, d, e] t) : (w.cell? ⟨g, 0, none⟩ = some a ∧ w.cell? ⟨g, 1, none⟩ = some b ∧ w.cell? ⟨g, 2, none⟩ = some c ∧ w.cell? ⟨g, 3, none⟩ = some d ∧ w.cell? ⟨g, 4, none⟩ = some e) ∧ (w.frozen? ⟨g, 0, none⟩ = false ∧ w.frozen? ⟨g, 1, none⟩ = false ∧ w.frozen? ⟨g, 2, none⟩ = false ∧ w.frozen? ⟨g, 3, none⟩ = false ∧ w.frozen? ⟨g, 4, none⟩ = false) :=
  ⟨⟨h.cellv rfl, h.cellv rfl, h.cellv rfl, h.cellv rfl, h.cellv rfl⟩, ⟨h.free 0, h.free 1, h.free 2, h.free 3, h.free 4⟩⟩
end Go.Proofs.Ytnfabofkfnmplaa
