/- The rows of ChirographKept: a file's name, its texts, how many of these are sure. -/
import Derived.Test.YtknkbioalohofaaDkL
import Derived.Test.YtknkbioalohofaaKitR
import Derived.Test.YtknkbioalohofaaPureKept
namespace Go.Proofs.Ytknkbioalohofaa
open Go.RowKit

def kpC (k : K.Kp) (v : Value) : List Value := [.string ⟨k.id.toArray⟩, v, .int .i64 (k.sure : Int)]
abbrev Kv := K.Kp × Value
def KAt (w : World) (v : Value) (ks : List Kv) : Prop := RowN w 106 3 v (ks.map fun x => kpC x.1 x.2) ∧ ∀ x ∈ ks, Row1 w 9 x.2 (x.1.texts.map strV)
theorem info_kept : InfoN 106 (.agg #[.string ⟨#[]⟩, .slice none 0 0, .int .i64 0]) 3 48 := ⟨by kernel_rfl, rfl, by omega, by omega⟩
theorem size_kept : (Try.prog.info? 106).map (·.size) = some 3 := by kernel_rfl
theorem RowN.dstp {B : Nat} {w w' : World} {e : TypeId} {size : Nat} {v : Value} {l : List (List Value)} (h : RowN w e size v l) (d : DStp B w w') (h1 : e ≠ 126) (h2 : e ≠ 131) : RowN w' e size v l := by
  refine h.kept fun g hg => ?_
  obtain ⟨cur, hb⟩ := h.blk hg
  exact d.rest _ _ _ _ hb h1 h2
section
variable {w w' : World} {v : Value} {ks : List Kv}
theorem KAt.at_ (h : KAt w v ks) (hb : Below w.heap.size w w') : KAt w' v ks := ⟨h.1.at_ hb, fun x hx => (h.2 x hx).at_ hb⟩
theorem KAt.dstp {B : Nat} (h : KAt w v ks) (d : DStp B w w') : KAt w' v ks := ⟨h.1.dstp d (by decide) (by decide), fun x hx => (h.2 x hx).dstp d (by decide) (by decide)⟩
theorem kat_len (h : KAt w v ks) : ∀ x ∈ ks.map (fun x => kpC x.1 x.2), x.length = 3 := h.1.1
theorem kat_open (h : KAt w v ks) : ∃ A m c, v = .slice A m c ∧ m = ks.length ∧ KAt w (.slice A m c) ks := by
  obtain ⟨A, m, c, rfl, hm, _⟩ := rowN_open' h.1
  exact ⟨A, m, c, rfl, by rw [hm, List.length_map], h⟩
theorem kat_get {A : Option Addr} {m c : Nat} (h : KAt w (.slice A m c) ks) {j : Nat} {x : Kv} (hj : ks[j]? = some x) : ∃ g, A = some ⟨g, 0, none⟩ ∧ g < w.heap.size ∧ w.rangeAt g (j * 3) (kpC x.1 x.2) := by
  obtain ⟨g, o, h1, h2, h3⟩ := sreadN_at h.1.reads (k := j) (x := kpC x.1 x.2) (by rw [List.getElem?_map, hj]; rfl)
  rcases h.1.form with ⟨e, e2⟩ | ⟨g', cap, e, _⟩
  · injection e with e1 _ _
    rw [e1] at h1
    cases h1
  · injection e with e1 _ _
    rw [e1] at h1
    injection h1 with h1
    injection h1 with h4 h5
    subst h4 h5
    rw [Nat.zero_add] at h3
    exact ⟨g', e1, h2, h3⟩
theorem kat_cells {g m c : Nat} (h : KAt w (.slice (some ⟨g, 0, none⟩) m c) ks) {j : Nat} {k : K.Kp} {tv : Value} (hj : ks[j]? = some (k, tv)) :
    w.cell? ⟨g, j * 3, none⟩ = some (.string ⟨k.id.toArray⟩) ∧ w.cell? ⟨g, j * 3 + 1, none⟩ = some tv ∧ w.cell? ⟨g, j * 3 + 2, none⟩ = some (.int .i64 (k.sure : Int)) := by
  obtain ⟨g', h1, _, h3⟩ := kat_get h hj
  injection h1 with h1
  injection h1 with h1
  subst h1
  exact ⟨h3 0 _ rfl, h3 1 _ rfl, h3 2 _ rfl⟩
theorem kat_blk {g m c : Nat} (h : KAt w (.slice (some ⟨g, 0, none⟩) m c) ks) : ∃ cur, Blk w g cur 106 := h.1.blk rfl
theorem kat_free {g m c : Nat} (h : KAt w (.slice (some ⟨g, 0, none⟩) m c) ks) (k : Nat) : w.frozen? ⟨g, k, none⟩ = false := h.1.freeR k
theorem row1_set {e t : TypeId} {v : Value} {xs : List Value} {g : Nat} {cs : Array Value} (h : Row1 w e v xs) (hb : Blk w g cs t) (ht : e ≠ t) (k : Nat) (u : Value) : Row1 (w.setCell ⟨g, k, none⟩ u) e v xs := by
  refine h.kept fun i hi => (Only.setCell w g k u).block i ?_
  rintro rfl
  obtain ⟨cur, hcur⟩ := h.blk hi
  exact ht (blk_type_ne hcur hb)
/-- One text more. -/
theorem KAt.more {g m c : Nat} (h : KAt w (.slice (some ⟨g, 0, none⟩) m c) ks) (hb : Below w.heap.size w w') {j : Nat} {k : K.Kp} {tv v2 : Value} {t : List UInt8} (hj : ks[j]? = some (k, tv)) (hr : Row1 w' 9 v2 ((k.texts ++ [t]).map strV)) :
    KAt (w'.setCell ⟨g, j * 3 + 1, none⟩ v2) (.slice (some ⟨g, 0, none⟩) m c) (ks.set j (⟨k.id, k.texts ++ [t], k.sure⟩, v2)) := by
  have h' := h.at_ hb
  obtain ⟨cur, hblk⟩ := kat_blk h'
  refine ⟨?_, fun x hx => ?_⟩
  · have := h'.1.set (k := j) (j := 1) (x := kpC k tv) (by rw [List.getElem?_map, hj]; rfl) (by omega) v2
    rw [List.map_set]
    exact this
  · rcases List.mem_or_eq_of_mem_set hx with hx | hx
    · exact row1_set (h'.2 x hx) hblk (by decide) _ _
    · rw [hx]
      exact row1_set hr hblk (by decide) _ _
/-- How many are sure. -/
theorem KAt.sure {g m c : Nat} (h : KAt w (.slice (some ⟨g, 0, none⟩) m c) ks) {j n : Nat} {k : K.Kp} {tv : Value} (hj : ks[j]? = some (k, tv)) :
    KAt (w.setCell ⟨g, j * 3 + 2, none⟩ (.int .i64 (n : Int))) (.slice (some ⟨g, 0, none⟩) m c) (ks.set j (⟨k.id, k.texts, n⟩, tv)) := by
  obtain ⟨cur, hblk⟩ := kat_blk h
  refine ⟨?_, fun x hx => ?_⟩
  · have := h.1.set (k := j) (j := 2) (x := kpC k tv) (by rw [List.getElem?_map, hj]; rfl) (by omega) (.int .i64 (n : Int))
    rw [List.map_set]
    exact this
  · rcases List.mem_or_eq_of_mem_set hx with hx | hx
    · exact row1_set (h.2 x hx) hblk (by decide) _ _
    · rw [hx]
      exact row1_set (h.2 (k, tv) (List.mem_of_getElem? hj)) hblk (by decide) _ _
theorem dk_set {B : Nat} {p g m c : Nat} {M : D.Dk} (hd : DkAt B w p M) (h : KAt w (.slice (some ⟨g, 0, none⟩) m c) ks) (k : Nat) (u : Value) : DkAt B (w.setCell ⟨g, k, none⟩ u) p M := by
  obtain ⟨cur, hblk⟩ := kat_blk h
  exact hd.only hblk ⟨by decide, by decide, by decide⟩ (Only.setCell w g k u)
end
theorem kp_fst (ks : List Kv) (j : Nat) (x : Kv) : (ks.set j x).map Prod.fst = (ks.map Prod.fst).set j x.1 := List.map_set
theorem kp_get {ks : List Kv} {j : Nat} {k : K.Kp} {tv : Value} (h : ks[j]? = some (k, tv)) : (ks.map Prod.fst)[j]? = some k := by rw [List.getElem?_map, h]; rfl
theorem DkAt.grownN {B : Nat} {w w' : World} {p : Nat} {M : D.Dk} {e : TypeId} {size : Nat} {v : Value} {l : List (List Value)} (h : DkAt B w p M) (hrow : RowN w e size v l) (ht : e ≠ 126 ∧ e ≠ 131 ∧ e ≠ 5) (hg : w.grownBy w' v.ownBlock) : DkAt B w' p M := by
  obtain ⟨mb, Es, h⟩ := h
  have key : ∀ i o, w.heap[i]? = some o → (∀ cs fz, o ≠ Obj.cells cs e fz) → w'.heap[i]? = w.heap[i]? := fun i o hi hne => by
    refine hg.block i (Array.getElem?_eq_some_iff.1 hi).1 ?_
    intro e2
    obtain ⟨cur, hh⟩ := hrow.blk e2.symm
    unfold Blk at hh
    rw [hi] at hh
    injection hh with hh
    exact hne _ _ hh
  refine ⟨mb, Es, h.heap (fun i cs t fz hi h1 => key i _ hi ?_) (fun i es c hi => key i _ hi ?_)⟩
  · intro cs' fz' e2
    injection e2 with _ e2
    subst e2
    rcases h1 with rfl | rfl | rfl
    · exact ht.1 rfl
    · exact ht.2.1 rfl
    · exact ht.2.2 rfl
  · intro cs' fz' e2
    cases e2
theorem row1_news {w : World} {e : TypeId} {g n c : Nat} {xs : List Value} (h : Row1 w e (.slice (some ⟨g, 0, none⟩) n c) xs) : ∀ (j : Nat) (u : Value), xs[j]? = some u → w.cell? ((⟨g, 0, none⟩ : Addr).add j) = some u := by
  intro j u hj
  rw [Addr.add_mid, Nat.zero_add]
  exact h.cell rfl j u hj
/-- A new file's row. -/
theorem kat_push {w w' : World} {v v' : Value} {ks : List Kv} {k : K.Kp} (h : KAt w v ks) (hg : w.grownBy w' v.ownBlock) (hk : k.texts = [])
    (hrow : RowN w' 106 3 v' ((ks.map fun x => kpC x.1 x.2) ++ [kpC k (.slice none 0 0)])) : KAt w' v' (ks ++ [(k, .slice none 0 0)]) := by
  refine ⟨by rw [List.map_append]; exact hrow, fun x hx => ?_⟩
  rcases List.mem_append.1 hx with hx | hx
  · exact (h.2 x hx).grown hg ((h.2 x hx).ne_N h.1 (by decide))
  · rw [List.mem_singleton.1 hx]
    show Row1 w' _ (.slice none 0 0) (k.texts.map strV)
    rw [hk]
    exact Row1.nil _ _
theorem one_kpC (k : K.Kp) : ∀ u ∈ ([kpC k (.slice none 0 0)] : List (List Value)).flatten, u.oneCell' = true := by
  intro u hu
  simp [kpC] at hu
  rcases hu with rfl | rfl | rfl <;> rfl
theorem row_text {w : World} {v : Value} {l : List (List UInt8)} {t : List UInt8} (h : Row1 w 9 v ([] ++ l.map strV ++ [strV t])) : Row1 w 9 v ((l ++ [t]).map strV) := by
  rw [List.map_append]
  exact h
theorem row_text0 {w : World} {v : Value} {t : List UInt8} (h : Row1 w 9 v ([] ++ [strV t])) : Row1 w 9 v (([] ++ [t]).map strV) := h
theorem new_cellsB (w : World) (o : Obj) (l : List Value) (cs : Array Value) (hc : cs = l.toArray) (t : TypeId) : ∀ (j : Nat) (u : Value), l[j]? = some u → ((w.alloc o).alloc (.cells cs t)).cell? ((⟨w.heap.size + 1, 0, none⟩ : Addr).add j) = some u := by
  have := new_cells (w.alloc o) l cs hc t
  rw [World.size_alloc] at this
  exact this
theorem own_geK {B g n c : Nat} (h : (Value.slice (some ⟨g, 0, none⟩) n c).ownBlock = none ∨ ∃ k, B ≤ k ∧ (Value.slice (some ⟨g, 0, none⟩) n c).ownBlock = some k) : B ≤ g := by
  rcases h with e | ⟨k', h1, h2⟩
  · cases e
  · have h3 : some g = some k' := h2
    injection h3 with h3; omega
theorem row1_openN {w : World} {e : TypeId} {v : Value} {xs : List Value} (h : Row1 w e v xs) {n : Nat} (hn : xs.length = n) : ∃ A c, v = .slice A n c := by
  subst hn
  rcases h.form with ⟨rfl, rfl⟩ | ⟨g, cap, rfl, _⟩
  · exact ⟨_, _, rfl⟩
  · exact ⟨_, _, rfl⟩
theorem row1_at {w : World} {e : TypeId} {A : Option Addr} {n c : Nat} {xs : List Value} (h : Row1 w e (.slice A n c) xs) {j : Nat} {u : Value} (hj : xs[j]? = some u) : ∃ g, A = some ⟨g, 0, none⟩ ∧ w.cell? ⟨g, j, none⟩ = some u := by
  rcases h.form with ⟨_, rfl⟩ | ⟨g, cap, e, _⟩
  · cases hj
  · injection e with e1 _ _
    subst e1
    exact ⟨g, rfl, h.cell rfl j u hj⟩
theorem cells3 {w : World} {g : Nat} {a b c : Value} {t : TypeId} (h : Blk w g #[a, b, c] t) : w.cell? ⟨g, 0, none⟩ = some a ∧ w.cell? ⟨g, 1, none⟩ = some b ∧ w.cell? ⟨g, 2, none⟩ = some c :=
  ⟨h.cellv rfl, h.cellv rfl, h.cellv rfl⟩
/-- append([]string{}, nil...) -/
theorem append_nil_str (g : Nat) (c : Nat) (ty : TypeId) (w : World) : (Builtin.append_ #[35, 35] ty #[.slice (some ⟨g, 0, none⟩) 0 0, .slice none 0 c]).run Try.prog w = .ok (.slice (some ⟨g, 0, none⟩) 0 0) w := by
  obtain ⟨i0, hi, hz0, hz1, hz2⟩ := info_parts info_str.1
  simp [Builtin.append_, run_underlying Try.underlying35, sizeOf, typeInfo, hi, Builtin.lenOf, Builtin.firstCells, storeCells]
end Go.Proofs.Ytknkbioalohofaa
