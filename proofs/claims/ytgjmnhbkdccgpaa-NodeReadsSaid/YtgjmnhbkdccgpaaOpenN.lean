/- How leaves and items come in as arguments; their comparison. -/
import Derived.Test.YtgjmnhbkdccgpaaRow
import Derived.Test.YtgjmnhbkdccgpaaNAwake
import Derived.Deep.Strs
namespace Go.Proofs.Ytgjmnhbkdccgpaa
open Go.ChangeShapes Go.WideShapes Go.ChangeAt Go.RowKit
section
variable {H : Type} {enc : TypeId × Value → H} {W : World} {base : Nat} {sp : Nat → Bool} {held : Bool} {v : Value} {d : DataW H} {p : List MemPlace}
theorem cells61 : Try.prog.cellsOf 61 = 65 := by kernel_rfl
theorem cells65 : Try.prog.cellsOf 65 = 66 := by kernel_rfl
theorem cells69 : Try.prog.cellsOf 69 = 132 := by kernel_rfl
theorem cells72 : Try.prog.cellsOf 72 = 66 := by kernel_rfl
theorem cells77 : Try.prog.cellsOf 77 = 65 := by kernel_rfl
theorem pref_of_trod {fuel : Nat} {cs : List Value} {x : DataW H × List MemPlace} (hf : DataW.trod enc Try.prog W 0 sp held fuel 63 cs = some x) : ∃ (n : Int) (l : List UInt8), (Lit.int .i64 n).wf = true ∧ l.length = 32 ∧ cs = .int .i64 n :: l.map byteV := by
  obtain ⟨y0, y1, n, -, hlen, h0, h1⟩ := trod_struct2 Try.underlying63 hf
  rw [cells29] at hlen
  dsimp only at h0 h1
  rw [cells3, List.drop_zero] at h0
  rw [cells23] at h1
  obtain ⟨k, hk, _, hwf⟩ := DataW.trod_int Try.underlying3 h0
  obtain ⟨l, hl, hcs⟩ := bytes_of_trod Try.underlying25 Try.underlying5 cells5 cells23 h1
  refine ⟨k, l, hwf, hl, ?_⟩
  rw [List.take_of_length_le (by rw [List.length_drop]; omega)] at hcs
  rw [← hcs]
  have := (List.take_append_drop 1 cs).symm
  rw [hk] at this
  exact this
theorem leaf_of_trod {fuel : Nat} {cs : List Value} {x : DataW H × List MemPlace} (hf : DataW.trod enc Try.prog W 0 sp held fuel 61 cs = some x) : ∃ (l v : List UInt8) (t : Int), l.length = 32 ∧ v.length = 32 ∧ (Lit.int .i64 t).wf = true ∧ cs = leafC l v t := by
  obtain ⟨y0, y1, y2, n, -, hlen, h0, h1, h2⟩ := Deep.trod_struct3 Try.underlying61 hf
  rw [cells61] at hlen
  dsimp only at h0 h1 h2
  rw [cells23, List.drop_zero] at h0
  rw [cells23] at h1
  rw [cells3] at h2
  obtain ⟨l, hl, e0⟩ := bytes_of_trod Try.underlying25 Try.underlying5 cells5 cells23 h0
  obtain ⟨v, hv, e1⟩ := bytes_of_trod Try.underlying25 Try.underlying5 cells5 cells23 h1
  obtain ⟨t, e2, _, hwf⟩ := DataW.trod_int Try.underlying3 h2
  refine ⟨l, v, t, hl, hv, hwf, ?_⟩
  rw [List.take_of_length_le (by rw [List.length_drop]; omega)] at e2
  unfold leafC
  rw [← e0, ← e1, ← e2, List.append_assoc]
  have a1 := (List.take_append_drop 32 cs).symm
  have a2 := (List.take_append_drop 32 (cs.drop 32)).symm
  rw [List.drop_drop] at a2
  rw [← a2]; exact a1
theorem item_of_trod {fuel : Nat} {cs : List Value} {x : DataW H × List MemPlace} (hf : DataW.trod enc Try.prog W 0 sp held fuel 65 cs = some x) : ∃ (n : Int) (p s : List UInt8) (t : Int), (Lit.int .i64 n).wf = true ∧ p.length = 32 ∧ s.length = 32 ∧ (Lit.int .i64 t).wf = true ∧ cs = itemC n p s t := by
  obtain ⟨y0, y1, y2, n, -, hlen, h0, h1, h2⟩ := Deep.trod_struct3 Try.underlying65 hf
  rw [cells65] at hlen
  dsimp only at h0 h1 h2
  rw [cells29, List.drop_zero] at h0
  rw [cells23] at h1
  rw [cells3] at h2
  obtain ⟨n, p, hn, hp, e0⟩ := pref_of_trod h0
  obtain ⟨s, hs, e1⟩ := bytes_of_trod Try.underlying25 Try.underlying5 cells5 cells23 h1
  obtain ⟨t, e2, _, hwf⟩ := DataW.trod_int Try.underlying3 h2
  refine ⟨n, p, s, t, hn, hp, hs, hwf, ?_⟩
  rw [List.take_of_length_le (by rw [List.length_drop]; omega)] at e2
  unfold itemC
  rw [← List.cons_append, ← List.cons_append, ← e0, ← e1, ← e2, List.append_assoc]
  have a1 := (List.take_append_drop 33 cs).symm
  have a2 := (List.take_append_drop 32 (cs.drop 33)).symm
  rw [List.drop_drop] at a2
  rw [← a2]; exact a1
set_option maxRecDepth 1000000 in
theorem open_leaf (hval : Value.okWide Try.prog W .any base 61 v) (h : DataW.Trod enc Try.prog W 0 sp held 61 v d p) : ∃ (l u : List UInt8) (t : Int), l.length = 32 ∧ u.length = 32 ∧ (Lit.int .i64 t).wf = true ∧ v = .agg (leafC l u t).toArray := by
  obtain ⟨cs, rfl, _, _⟩ : ∃ cs, v = .agg cs ∧ cs.size = Try.prog.cellsOf 61 ∧ Row.okWide Try.prog W .any base 61 cs := by
    simpa [Value.okWide, Try.underlying61] using hval
  obtain ⟨fuel, hf⟩ := h
  obtain ⟨l, u, t, hl, hu, ht, hcs⟩ := leaf_of_trod hf
  refine ⟨l, u, t, hl, hu, ht, ?_⟩
  have : cs.toList = leafC l u t := hcs
  rw [← this]
set_option maxRecDepth 1000000 in
theorem open_item (hval : Value.okWide Try.prog W .any base 65 v) (h : DataW.Trod enc Try.prog W 0 sp held 65 v d p) : ∃ (n : Int) (q s : List UInt8) (t : Int), (Lit.int .i64 n).wf = true ∧ q.length = 32 ∧ s.length = 32 ∧ (Lit.int .i64 t).wf = true ∧ v = .agg (itemC n q s t).toArray := by
  obtain ⟨cs, rfl, _, _⟩ : ∃ cs, v = .agg cs ∧ cs.size = Try.prog.cellsOf 65 ∧ Row.okWide Try.prog W .any base 65 cs := by
    simpa [Value.okWide, Try.underlying65] using hval
  obtain ⟨fuel, hf⟩ := h
  obtain ⟨n, q, s, t, hn, hq, hs, ht, hcs⟩ := item_of_trod hf
  refine ⟨n, q, s, t, hn, hq, hs, ht, ?_⟩
  have : cs.toList = itemC n q s t := hcs
  rw [← this]
end
def leafL (l v : List UInt8) (t : Int) : List Lit := l.map byteL ++ v.map byteL ++ [.int .i64 t]
def itemL (n : Int) (p s : List UInt8) (t : Int) : List Lit := .int .i64 n :: p.map byteL ++ s.map byteL ++ [.int .i64 t]
theorem litI (n : Int) (hn : (Lit.int .i64 n).wf = true) (d : Nat) : Try.prog.keyLits (d + 1) 3 [.int .i64 n] = some [.int .i64 n] := by
  unfold Program.keyLits
  rw [Try.underlying3]
  dsimp only
  rw [if_pos ⟨rfl, hn⟩]
theorem leafC_cut (l v : List UInt8) (t : Int) (hl : l.length = 32) (hv : v.length = 32) : (leafC l v t).take 32 = l.map byteV ∧ ((leafC l v t).drop 32).take 32 = v.map byteV ∧ ((leafC l v t).drop 64).take 1 = [.int .i64 t] := by
  have e : leafC l v t = l.map byteV ++ (v.map byteV ++ [.int .i64 t]) := by unfold leafC; rw [List.append_assoc]
  have h1 : (l.map byteV).length = 32 := by rw [List.length_map, hl]
  have h2 : (v.map byteV).length = 32 := by rw [List.length_map, hv]
  have d1 : (leafC l v t).drop 32 = v.map byteV ++ [.int .i64 t] := by rw [e, List.drop_append_of_le_length (by omega), List.drop_of_length_le (by omega), List.nil_append]
  refine ⟨by rw [e, List.take_append_of_le_length (by omega), List.take_of_length_le (by omega)], by rw [d1, List.take_append_of_le_length (by omega), List.take_of_length_le (by omega)], ?_⟩
  rw [show 64 = 32 + 32 from rfl, ← List.drop_drop, d1, List.drop_append_of_le_length (by omega), List.drop_of_length_le (by omega), List.nil_append]; rfl
theorem itemC_cut (n : Int) (p s : List UInt8) (t : Int) (hp : p.length = 32) (hs : s.length = 32) : (itemC n p s t).take 33 = .int .i64 n :: p.map byteV ∧ ((itemC n p s t).drop 33).take 32 = s.map byteV ∧ ((itemC n p s t).drop 65).take 1 = [.int .i64 t] := by
  have e : itemC n p s t = (.int .i64 n :: p.map byteV) ++ (s.map byteV ++ [.int .i64 t]) := by unfold itemC; rw [List.append_assoc, List.cons_append]
  have h1 : ((Value.int .i64 n) :: p.map byteV).length = 33 := by rw [List.length_cons, List.length_map, hp]
  have h2 : (s.map byteV).length = 32 := by rw [List.length_map, hs]
  have d1 : (itemC n p s t).drop 33 = s.map byteV ++ [.int .i64 t] := by rw [e, List.drop_append_of_le_length (by omega), List.drop_of_length_le (by omega), List.nil_append]
  refine ⟨by rw [e, List.take_append_of_le_length (by omega), List.take_of_length_le (by omega)], by rw [d1, List.take_append_of_le_length (by omega), List.take_of_length_le (by omega)], ?_⟩
  rw [show 65 = 33 + 32 from rfl, ← List.drop_drop, d1, List.drop_append_of_le_length (by omega), List.drop_of_length_le (by omega), List.nil_append]; rfl
theorem itemC_cut1 (n : Int) (p s : List UInt8) (t : Int) (hp : p.length = 32) : (itemC n p s t).take 1 = [.int .i64 n] ∧ ((itemC n p s t).drop 1).take 32 = p.map byteV := by
  refine ⟨rfl, ?_⟩
  unfold itemC
  rw [List.drop_succ_cons, List.drop_zero, List.append_assoc, List.take_append_of_le_length (by rw [List.length_map]; omega), List.take_of_length_le (by rw [List.length_map]; omega)]
theorem lits61 (l v : List UInt8) (t : Int) (hl : l.length = 32) (hv : v.length = 32) (ht : (Lit.int .i64 t).wf = true) : Try.prog.keyLits 3 61 (leafC l v t) = some (leafL l v t) := by
  obtain ⟨c1, c2, c3⟩ := leafC_cut l v t hl hv
  unfold Program.keyLits
  rw [Try.underlying61]
  dsimp only
  rw [if_pos ⟨by rw [cells61]; exact leafC_length l v t hl hv, by kernel_rfl⟩]
  simp only [List.mapM_cons, List.mapM_nil, cells3, cells23, List.drop_zero]
  rw [c1, c2, c3, lits23 l hl 0, lits23 v hv 0, litI t ht 1]
  simp [leafL]
theorem lits77 (l v : List UInt8) (t : Int) (hl : l.length = 32) (hv : v.length = 32) (ht : (Lit.int .i64 t).wf = true) : Try.prog.keyLits 3 77 (leafC l v t) = some (leafL l v t) := by
  obtain ⟨c1, c2, c3⟩ := leafC_cut l v t hl hv
  unfold Program.keyLits
  rw [Try.underlying77]
  dsimp only
  rw [if_pos ⟨by rw [cells77]; exact leafC_length l v t hl hv, by kernel_rfl⟩]
  simp only [List.mapM_cons, List.mapM_nil, cells3, cells23, List.drop_zero]
  rw [c1, c2, c3, lits23 l hl 0, lits23 v hv 0, litI t ht 1]
  simp [leafL]
theorem lits65 (n : Int) (p s : List UInt8) (t : Int) (hn : (Lit.int .i64 n).wf = true) (hp : p.length = 32) (hs : s.length = 32) (ht : (Lit.int .i64 t).wf = true) : Try.prog.keyLits 4 65 (itemC n p s t) = some (itemL n p s t) := by
  obtain ⟨c1, c2, c3⟩ := itemC_cut n p s t hp hs
  unfold Program.keyLits
  rw [Try.underlying65]
  dsimp only
  rw [if_pos ⟨by rw [cells65]; exact itemC_length n p s t hp hs, by kernel_rfl⟩]
  simp only [List.mapM_cons, List.mapM_nil, cells3, cells23, cells29, List.drop_zero]
  rw [c1, c2, c3, lits29 n p hp hn, lits23 s hs 1, litI t ht 2]
  simp [itemL]
theorem lits72 (n : Int) (p s : List UInt8) (t : Int) (hn : (Lit.int .i64 n).wf = true) (hp : p.length = 32) (hs : s.length = 32) (ht : (Lit.int .i64 t).wf = true) : Try.prog.keyLits 3 72 (itemC n p s t) = some (itemL n p s t) := by
  obtain ⟨c0, c1⟩ := itemC_cut1 n p s t hp
  obtain ⟨-, c2, c3⟩ := itemC_cut n p s t hp hs
  unfold Program.keyLits
  rw [Try.underlying72]
  dsimp only
  rw [if_pos ⟨by rw [cells72]; exact itemC_length n p s t hp hs, by kernel_rfl⟩]
  simp only [List.mapM_cons, List.mapM_nil, cells3, cells23, List.drop_zero]
  rw [c0, c1, c2, c3, lits23 p hp 0, lits23 s hs 0, litI t ht 1, litI n hn 1]
  simp [itemL]
theorem lits69 (n : Int) (p s : List UInt8) (t : Int) (n' : Int) (p' s' : List UInt8) (t' : Int) (hn : (Lit.int .i64 n).wf = true) (hp : p.length = 32) (hs : s.length = 32) (ht : (Lit.int .i64 t).wf = true) (hn' : (Lit.int .i64 n').wf = true) (hp' : p'.length = 32) (hs' : s'.length = 32) (ht' : (Lit.int .i64 t').wf = true) :
    Try.prog.keyLits 5 69 (innerC n p s t n' p' s' t') = some (itemL n p s t ++ itemL n' p' s' t') := by
  have l1 := itemC_length n p s t hp hs
  have l2 := itemC_length n' p' s' t' hp' hs'
  have c1 : (innerC n p s t n' p' s' t').take 66 = itemC n p s t := by unfold innerC; rw [List.take_append_of_le_length (by omega), List.take_of_length_le (by omega)]
  have c2 : ((innerC n p s t n' p' s' t').drop 66).take 66 = itemC n' p' s' t' := by unfold innerC; rw [List.drop_append_of_le_length (by omega), List.drop_of_length_le (by omega), List.nil_append, List.take_of_length_le (by omega)]
  unfold Program.keyLits
  rw [Try.underlying69]
  dsimp only
  rw [if_pos ⟨by rw [cells69]; unfold innerC; rw [List.length_append, l1, l2], by kernel_rfl⟩]
  simp only [List.mapM_cons, List.mapM_nil, cells65, List.drop_zero]
  rw [c1, c2, lits65 n p s t hn hp hs ht, lits65 n' p' s' t' hn' hp' hs' ht']
  simp
namespace D
def eqLeaf (l v : List UInt8) (t : Int) (l' v' : List UInt8) (t' : Int) : Bool := l == l' && v == v' && t == t'
def eqItem (n : Int) (p s : List UInt8) (t : Int) (n' : Int) (p' s' : List UInt8) (t' : Int) : Bool := n == n' && p == p' && s == s' && t == t'
end D
theorem leafL_eq {l v : List UInt8} {t : Int} {l' v' : List UInt8} {t' : Int} (hl : l.length = l'.length) (hv : v.length = v'.length) : D.eqLeaf l v t l' v' t' = true ↔ leafL l v t = leafL l' v' t' := by
  unfold D.eqLeaf leafL
  rw [Bool.and_eq_true, Bool.and_eq_true, beq_iff_eq, beq_iff_eq, beq_iff_eq]
  constructor
  · rintro ⟨⟨rfl, rfl⟩, rfl⟩; rfl
  · intro h
    obtain ⟨h, h3⟩ := List.append_inj h (by simp [hl, hv])
    obtain ⟨h1, h2⟩ := List.append_inj h (by simp [hl])
    rw [map_byteL] at h1 h2
    exact ⟨⟨h1, h2⟩, by simpa using h3⟩
theorem itemL_eq {n : Int} {p s : List UInt8} {t : Int} {n' : Int} {p' s' : List UInt8} {t' : Int} (hp : p.length = p'.length) (hs : s.length = s'.length) : D.eqItem n p s t n' p' s' t' = true ↔ itemL n p s t = itemL n' p' s' t' := by
  unfold D.eqItem itemL
  rw [Bool.and_eq_true, Bool.and_eq_true, Bool.and_eq_true, beq_iff_eq, beq_iff_eq, beq_iff_eq, beq_iff_eq]
  constructor
  · rintro ⟨⟨⟨rfl, rfl⟩, rfl⟩, rfl⟩; rfl
  · intro h
    obtain ⟨h, h3⟩ := List.append_inj h (by simp [hp, hs])
    obtain ⟨h1, h2⟩ := List.append_inj h (by simp [hp])
    injection h1 with h0 h1
    rw [map_byteL] at h1 h2
    exact ⟨⟨⟨by injection h0, h1⟩, h2⟩, by simpa using h3⟩
theorem formed61 (l v : List UInt8) (t : Int) (hl : l.length = 32) (hv : v.length = 32) : (Value.agg (leafC l v t).toArray).formed Try.prog 61 = true := by
  unfold Value.formed
  rw [Try.underlying61]
  simp [leafC_length l v t hl hv, cells61]
theorem formed77 (l v : List UInt8) (t : Int) (hl : l.length = 32) (hv : v.length = 32) : (Value.agg (leafC l v t).toArray).formed Try.prog 77 = true := by
  unfold Value.formed
  rw [Try.underlying77]
  simp [leafC_length l v t hl hv, cells77]
theorem formed65 (n : Int) (p s : List UInt8) (t : Int) (hp : p.length = 32) (hs : s.length = 32) : (Value.agg (itemC n p s t).toArray).formed Try.prog 65 = true := by
  unfold Value.formed
  rw [Try.underlying65]
  simp [itemC_length n p s t hp hs, cells65]
theorem formed72 (n : Int) (p s : List UInt8) (t : Int) (hp : p.length = 32) (hs : s.length = 32) : (Value.agg (itemC n p s t).toArray).formed Try.prog 72 = true := by
  unfold Value.formed
  rw [Try.underlying72]
  simp [itemC_length n p s t hp hs, cells72]
theorem formed69 (n : Int) (p s : List UInt8) (t : Int) (n' : Int) (p' s' : List UInt8) (t' : Int) (hp : p.length = 32) (hs : s.length = 32) (hp' : p'.length = 32) (hs' : s'.length = 32) : (Value.agg (innerC n p s t n' p' s' t').toArray).formed Try.prog 69 = true := by
  have := innerC_size n p s t n' p' s' t' hp hs hp' hs'
  unfold Value.formed
  rw [Try.underlying69]
  rw [List.size_toArray] at this
  simp [this, cells69]
theorem guard61 : Try.prog.eqGuardType Try.prog.depth 61 = false := by kernel_rfl
theorem guard77 : Try.prog.eqGuardType Try.prog.depth 77 = false := by kernel_rfl
theorem guard65 : Try.prog.eqGuardType Try.prog.depth 65 = false := by kernel_rfl
theorem guard72 : Try.prog.eqGuardType Try.prog.depth 72 = false := by kernel_rfl
theorem guard69 : Try.prog.eqGuardType Try.prog.depth 69 = false := by kernel_rfl
theorem eql61 (l v : List UInt8) (t : Int) (l' v' : List UInt8) (t' : Int) (hl : l.length = 32) (hv : v.length = 32) (ht : (Lit.int .i64 t).wf = true) (hl' : l'.length = 32) (hv' : v'.length = 32) (ht' : (Lit.int .i64 t').wf = true) (w : World) :
    (binOp .eql 61 (.agg (leafC l v t).toArray) (.agg (leafC l' v' t').toArray)).run Try.prog w = .ok (.bool (D.eqLeaf l v t l' v' t')) w :=
  eql_lits (m := 3) (D := 3) (D' := 3) (by kernel_rfl) (by omega) (formed61 l v t hl hv) (formed61 l' v' t' hl' hv') (lits61 l v t hl hv ht) (lits61 l' v' t' hl' hv' ht') (leafL_eq (by omega) (by omega)) w
theorem neq61 (l v : List UInt8) (t : Int) (l' v' : List UInt8) (t' : Int) (hl : l.length = 32) (hv : v.length = 32) (ht : (Lit.int .i64 t).wf = true) (hl' : l'.length = 32) (hv' : v'.length = 32) (ht' : (Lit.int .i64 t').wf = true) (w : World) :
    (binOp .neq 61 (.agg (leafC l v t).toArray) (.agg (leafC l' v' t').toArray)).run Try.prog w = .ok (.bool (!D.eqLeaf l v t l' v' t')) w :=
  neq_lits (m := 3) (D := 3) (D' := 3) (by kernel_rfl) (by omega) (formed61 l v t hl hv) (formed61 l' v' t' hl' hv') (lits61 l v t hl hv ht) (lits61 l' v' t' hl' hv' ht') (leafL_eq (by omega) (by omega)) w
theorem eql77 (l v : List UInt8) (t : Int) (l' v' : List UInt8) (t' : Int) (hl : l.length = 32) (hv : v.length = 32) (ht : (Lit.int .i64 t).wf = true) (hl' : l'.length = 32) (hv' : v'.length = 32) (ht' : (Lit.int .i64 t').wf = true) (w : World) :
    (binOp .eql 77 (.agg (leafC l v t).toArray) (.agg (leafC l' v' t').toArray)).run Try.prog w = .ok (.bool (D.eqLeaf l v t l' v' t')) w :=
  eql_lits (m := 3) (D := 3) (D' := 3) (by kernel_rfl) (by omega) (formed77 l v t hl hv) (formed77 l' v' t' hl' hv') (lits77 l v t hl hv ht) (lits77 l' v' t' hl' hv' ht') (leafL_eq (by omega) (by omega)) w
theorem neq77 (l v : List UInt8) (t : Int) (l' v' : List UInt8) (t' : Int) (hl : l.length = 32) (hv : v.length = 32) (ht : (Lit.int .i64 t).wf = true) (hl' : l'.length = 32) (hv' : v'.length = 32) (ht' : (Lit.int .i64 t').wf = true) (w : World) :
    (binOp .neq 77 (.agg (leafC l v t).toArray) (.agg (leafC l' v' t').toArray)).run Try.prog w = .ok (.bool (!D.eqLeaf l v t l' v' t')) w :=
  neq_lits (m := 3) (D := 3) (D' := 3) (by kernel_rfl) (by omega) (formed77 l v t hl hv) (formed77 l' v' t' hl' hv') (lits77 l v t hl hv ht) (lits77 l' v' t' hl' hv' ht') (leafL_eq (by omega) (by omega)) w
theorem eql65 (n : Int) (p s : List UInt8) (t : Int) (n' : Int) (p' s' : List UInt8) (t' : Int) (hn : (Lit.int .i64 n).wf = true) (hp : p.length = 32) (hs : s.length = 32) (ht : (Lit.int .i64 t).wf = true) (hn' : (Lit.int .i64 n').wf = true) (hp' : p'.length = 32) (hs' : s'.length = 32) (ht' : (Lit.int .i64 t').wf = true) (w : World) :
    (binOp .eql 65 (.agg (itemC n p s t).toArray) (.agg (itemC n' p' s' t').toArray)).run Try.prog w = .ok (.bool (D.eqItem n p s t n' p' s' t')) w :=
  eql_lits (m := 4) (D := 4) (D' := 4) (by kernel_rfl) (by omega) (formed65 n p s t hp hs) (formed65 n' p' s' t' hp' hs') (lits65 n p s t hn hp hs ht) (lits65 n' p' s' t' hn' hp' hs' ht') (itemL_eq (by omega) (by omega)) w
theorem neq65 (n : Int) (p s : List UInt8) (t : Int) (n' : Int) (p' s' : List UInt8) (t' : Int) (hn : (Lit.int .i64 n).wf = true) (hp : p.length = 32) (hs : s.length = 32) (ht : (Lit.int .i64 t).wf = true) (hn' : (Lit.int .i64 n').wf = true) (hp' : p'.length = 32) (hs' : s'.length = 32) (ht' : (Lit.int .i64 t').wf = true) (w : World) :
    (binOp .neq 65 (.agg (itemC n p s t).toArray) (.agg (itemC n' p' s' t').toArray)).run Try.prog w = .ok (.bool (!D.eqItem n p s t n' p' s' t')) w :=
  neq_lits (m := 4) (D := 4) (D' := 4) (by kernel_rfl) (by omega) (formed65 n p s t hp hs) (formed65 n' p' s' t' hp' hs') (lits65 n p s t hn hp hs ht) (lits65 n' p' s' t' hn' hp' hs' ht') (itemL_eq (by omega) (by omega)) w
theorem eql72 (n : Int) (p s : List UInt8) (t : Int) (n' : Int) (p' s' : List UInt8) (t' : Int) (hn : (Lit.int .i64 n).wf = true) (hp : p.length = 32) (hs : s.length = 32) (ht : (Lit.int .i64 t).wf = true) (hn' : (Lit.int .i64 n').wf = true) (hp' : p'.length = 32) (hs' : s'.length = 32) (ht' : (Lit.int .i64 t').wf = true) (w : World) :
    (binOp .eql 72 (.agg (itemC n p s t).toArray) (.agg (itemC n' p' s' t').toArray)).run Try.prog w = .ok (.bool (D.eqItem n p s t n' p' s' t')) w :=
  eql_lits (m := 3) (D := 3) (D' := 3) (by kernel_rfl) (by omega) (formed72 n p s t hp hs) (formed72 n' p' s' t' hp' hs') (lits72 n p s t hn hp hs ht) (lits72 n' p' s' t' hn' hp' hs' ht') (itemL_eq (by omega) (by omega)) w
theorem neq72 (n : Int) (p s : List UInt8) (t : Int) (n' : Int) (p' s' : List UInt8) (t' : Int) (hn : (Lit.int .i64 n).wf = true) (hp : p.length = 32) (hs : s.length = 32) (ht : (Lit.int .i64 t).wf = true) (hn' : (Lit.int .i64 n').wf = true) (hp' : p'.length = 32) (hs' : s'.length = 32) (ht' : (Lit.int .i64 t').wf = true) (w : World) :
    (binOp .neq 72 (.agg (itemC n p s t).toArray) (.agg (itemC n' p' s' t').toArray)).run Try.prog w = .ok (.bool (!D.eqItem n p s t n' p' s' t')) w :=
  neq_lits (m := 3) (D := 3) (D' := 3) (by kernel_rfl) (by omega) (formed72 n p s t hp hs) (formed72 n' p' s' t' hp' hs') (lits72 n p s t hn hp hs ht) (lits72 n' p' s' t' hn' hp' hs' ht') (itemL_eq (by omega) (by omega)) w
end Go.Proofs.Ytgjmnhbkdccgpaa
