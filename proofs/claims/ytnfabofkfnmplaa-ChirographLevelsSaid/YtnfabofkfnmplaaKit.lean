/- Small words for the walks: bytes and labels as values, whole arrays out of blocks in regions that draw, bits of int. -/
import Derived.Test.YtnfabofkfnmplaaRows
import Derived.WalkKit
import Derived.Deep.QuietTactic
import Derived.BigQuiet
import Derived.Lib.QuietBelow
import Derived.Lib.Hide
import Derived.Laws.CopyOwn
import Derived.StillTailTactics
import Derived.Lib.MinMax
import Derived.Deep.MidRow
import Derived.DeepKeys
namespace Go.Proofs.Ytnfabofkfnmplaa
open Go.RowKit

/-- A byte as a value; a label's cells. -/
def byteV (b : UInt8) : Value := .int .u8 (b.toNat : Int)
def labA (l : List UInt8) : Array Value := (l.map byteV).toArray
theorem labA_size (l : List UInt8) : (labA l).size = l.length := by simp [labA]
theorem labA_get (l : List UInt8) (j : Nat) (h : j < l.length) : (labA l)[j]? = some (.int .u8 ((l.getD j 0).toNat : Int)) := by
  simp [labA, byteV, List.getElem?_eq_getElem h, List.getD_eq_getElem?_getD]
theorem labA_set (l : List UInt8) (j : Nat) (b : UInt8) : (labA l).setIfInBounds j (byteV b) = labA (l.set j b) := by
  simp [labA, List.map_set]

theorem ret_int {k : IntKind} {a b : Int} (h : a = b) : Ending.returned (.int k a) = .returned (.int k b) := by rw [h]
theorem ret_bool {a b : Bool} (h : a = b) : Ending.returned (.bool a) = .returned (.bool b) := by rw [h]

/-- What a call that only made memory leaves of the old cells. -/
theorem bcell {W w1 : World} (hb : Below W.heap.size W w1) : (∀ b o, b < W.heap.size → w1.cell? ⟨b, o, none⟩ = W.cell? ⟨b, o, none⟩) ∧ (∀ b o, b < W.heap.size → w1.frozen? ⟨b, o, none⟩ = W.frozen? ⟨b, o, none⟩) :=
  ⟨fun b o h => hb.cell (p := ⟨b, o, none⟩) h, fun b o h => hb.frozen (p := ⟨b, o, none⟩) h⟩

theorem ofInt_i64 (a : Nat) (ha : a < 9223372036854775808) : (BitVec.ofInt 64 (a : Int)).toNat = a := by
  rw [BitVec.ofInt_natCast, BitVec.toNat_ofNat]; exact Nat.mod_eq_of_lt (by omega)
theorem i64_and_nat (a b : Nat) (ha : a < 9223372036854775808) (hb : b < 9223372036854775808) : bits .and .i64 (a : Int) (b : Int) = ((a &&& b : Nat) : Int) := by
  have hx : a &&& b < 2 ^ 63 := Nat.and_lt_two_pow _ (by omega)
  show IntKind.i64.wrap ((BitVec.ofInt 64 (a : Int) &&& BitVec.ofInt 64 (b : Int)).toNat : Int) = _
  rw [BitVec.toNat_and, ofInt_i64 a ha, ofInt_i64 b hb, IntKind.wrap_i64]
  omega
theorem i64_or_nat (a b : Nat) (ha : a < 9223372036854775808) (hb : b < 9223372036854775808) : bits .or .i64 (a : Int) (b : Int) = ((a ||| b : Nat) : Int) := by
  have hx : a ||| b < 2 ^ 63 := Nat.or_lt_two_pow (by omega) (by omega)
  show IntKind.i64.wrap ((BitVec.ofInt 64 (a : Int) ||| BitVec.ofInt 64 (b : Int)).toNat : Int) = _
  rw [BitVec.toNat_or, ofInt_i64 a ha, ofInt_i64 b hb, IntKind.wrap_i64]
  omega

/-- A whole array (or struct) out of a block, in a region that draws its order. -/
theorem quiet_load_row {P : Program} {o : Oper} {a : Act} {C : World → Prop} {K : Act → Prop} (ty : TypeId) (x : Operand) (ho : o.op = .load ty x)
    (g : Nat) (hx : a.eval x = .pointer (some ⟨g, 0, none⟩)) (t : TypeId) (cs : Array Value) (fr : Nat × Nat) (d : TypeDesc) (hg : ∀ w, C w → w.heap[g]? = some (.cells cs t fr))
    (hu : P.underlying ty = some d) (hd : (match d with | .struct _ | .array _ _ => true | _ => false) = true) (hi : (P.info? ty).map (·.size) = some cs.size)
    (h : K (a.put o.dst (.agg cs))) : o.quiet P a C K := by
  refine ⟨.agg cs, fun w hw => ?_, h⟩
  unfold Oper.quietAt execOp
  simp only [ho, hx, Instr.loadAt, Instr.sureAddr, Sem.run_bind, Sem.run_pure, Result.andThen_ok, run_loadVar_row w g t ty cs fr d (hg w hw) hu hd hi]
  exact ⟨rfl, rfl⟩
theorem heap_regrown {w : World} {g : Nat} {o : Obj} (h : w.heap[g]? = some o) (w' : World) (hw : ∃ p : Regrown, w' = Go.Sort.grow (redrawn w p.d) p.os) : w'.heap[g]? = some o := by
  obtain ⟨p, rfl⟩ := hw
  have hlt : g < w.heap.size := by
    rcases Nat.lt_or_ge g w.heap.size with h1 | h1
    · exact h1
    · rw [Array.getElem?_eq_none h1] at h; cases h
  rw [(below_regrown w p.d p.os).block g hlt]; exact h
/-- The class of worlds that a region leaves, with its blocks told by 'Below'. -/
theorem below_of_regrown {w w' : World} (hw : ∃ p : Regrown, w' = Go.Sort.grow (redrawn w p.d) p.os) : Below w.heap.size w w' := by
  obtain ⟨p, rfl⟩ := hw
  exact below_regrown w p.d p.os
theorem below_drewN {B : Nat} {a w : World} (h : Below B a w) (n : Nat) : Below B a (w.drewN n) := ⟨h.os, h.tape, h.output, h.size, h.block⟩
/-- A callee's contract that ends in 'Below', met in such a region. -/
theorem calls_regrown {P : Program} {f : FuncId} {args : Array Value} {w : World} {v : Value} (p : Regrown)
    (h : ∀ W : World, Below w.heap.size w W → Calls P f args W fun e w' => e = .returned v ∧ Below W.heap.size W w') : Calls P f args (Go.Sort.grow (redrawn w p.d) p.os) fun e w'' => e = .returned v ∧ ∃ p : Regrown, w'' = Go.Sort.grow (redrawn w p.d) p.os :=
  Calls.regrown_of (h _ (below_regrown w p.d p.os))

/-- Block g is known whole, and nothing of it is frozen. -/
def Blk (w : World) (g : Nat) (cs : Array Value) (t : TypeId) : Prop := w.heap[g]? = some (.cells cs t (0, 0))
/-- Only block g may have changed. -/
structure Only (g : Nat) (w w' : World) : Prop where
  os : w'.os = w.os
  tape : w'.tape = w.tape
  output : w'.output = w.output
  size : w'.heap.size = w.heap.size
  block : ∀ k, k ≠ g → w'.heap[k]? = w.heap[k]?
section
variable {w w' : World} {g : Nat} {cs : Array Value} {t : TypeId}
theorem Blk.lt (h : Blk w g cs t) : g < w.heap.size := by
  rcases Nat.lt_or_ge g w.heap.size with h1 | h1
  · exact h1
  · unfold Blk at h; rw [Array.getElem?_eq_none h1] at h; cases h
theorem Blk.cell (h : Blk w g cs t) (i : Nat) : w.cell? ⟨g, i, none⟩ = cs[i]? := cell_of_row w g i cs t (0, 0) h
theorem Blk.cellv (h : Blk w g cs t) {i : Nat} {v : Value} (hi : cs[i]? = some v) : w.cell? ⟨g, i, none⟩ = some v := (h.cell i).trans hi
theorem Blk.free (h : Blk w g cs t) (i : Nat) : w.frozen? ⟨g, i, none⟩ = false := by unfold Blk at h; simp [World.frozen?, h]
theorem Blk.new (w : World) (cs : Array Value) (t : TypeId) : Blk (w.alloc (.cells cs t)) w.heap.size cs t := heap_alloc_new w _
theorem Blk.alloc (h : Blk w g cs t) (o : Obj) : Blk (w.alloc o) g cs t := (Below.heap_alloc w o g h.lt).trans h
theorem Blk.below {B : Nat} (h : Blk w g cs t) (hb : Below B w w') (hg : g < B) : Blk w' g cs t := (hb.block g hg).trans h
theorem Blk.at_ (h : Blk w g cs t) (hb : Below w.heap.size w w') : Blk w' g cs t := h.below hb h.lt
theorem Blk.only {k : Nat} (h : Blk w g cs t) (ho : Only k w w') (hk : g ≠ k) : Blk w' g cs t := (ho.block g hk).trans h
theorem Blk.set_ (h : Blk w g cs t) (i : Nat) (u : Value) : Blk (w.setCell ⟨g, i, none⟩ u) g (cs.setIfInBounds i u) t := by
  unfold Blk at h ⊢
  simp [World.setCell, Array.getElem?_modify, h]
theorem Blk.far (h : Blk w g cs t) {p : Addr} (hp : g ≠ p.block) (u : Value) : Blk (w.setCell p u) g cs t := (Below.heap_setCell w p u g hp).trans h
theorem Blk.drewN (h : Blk w g cs t) (n : Nat) : Blk (w.drewN n) g cs t := h
theorem Only.below {B : Nat} {a : World} (ho : Only g w w') (h : Below B a w) (hB : B ≤ g) : Below B a w' :=
  ⟨ho.os.trans h.os, ho.tape.trans h.tape, ho.output.trans h.output, by rw [ho.size]; exact h.size, fun k hk => (ho.block k (by omega)).trans (h.block k hk)⟩
theorem Only.setCell (w : World) (g i : Nat) (u : Value) : Only g w (w.setCell ⟨g, i, none⟩ u) :=
  ⟨rfl, rfl, rfl, by simp [World.setCell], fun k hk => Below.heap_setCell w _ u k hk⟩
theorem Only.trans {a b c : World} (h : Only g a b) (k : Only g b c) : Only g a c :=
  ⟨k.os.trans h.os, k.tape.trans h.tape, k.output.trans h.output, k.size.trans h.size, fun j hj => (k.block j hj).trans (h.block j hj)⟩
/-- 'C' with the cells 'cs' from 'o' on. -/
def splice (C : Array Value) (o : Nat) (cs : Array Value) : Array Value := (C.toList.take o ++ (cs.toList ++ C.toList.drop (o + cs.size))).toArray
theorem splice_all (C cs : Array Value) (h : C.size = cs.size) : splice C 0 cs = cs := by
  unfold splice
  rw [List.take_zero, List.nil_append, List.drop_of_length_le (by simp; omega), List.append_nil]
end
section
variable {P : Program} {w : World} {g : Nat} {t : TypeId}
theorem blk_range {C cs : Array Value} {o : Nat} (h : Blk w g C t) (hcs : ∀ j, j < cs.size → C[o + j]? = cs[j]?) : w.rangeAt g o cs.toList := by
  intro j v hv
  have hj : j < cs.size := by
    rcases Nat.lt_or_ge j cs.size with h1 | h1
    · exact h1
    · rw [Array.getElem?_toList, Array.getElem?_eq_none h1] at hv; cases hv
  rw [h.cell, hcs j hj]
  simpa using hv
/-- A row, or the midst of one, out of a block that is known whole. -/
theorem wpList_load_blk {ops : Array Oper} {rest : List Oper} {o : Oper} {a : Act} {Q : Exit → Act → World → Prop} (hw : Region.wanted o (yielded ops a.tmps) = true) (ty : TypeId) (x : Operand) (ho : o.op = .load ty x)
    (off : Nat) (hx : a.eval x = .pointer (some ⟨g, off, none⟩)) {C : Array Value} (h : Blk w g C t) (cs : Array Value) (hcs : ∀ j, j < cs.size → C[off + j]? = cs[j]?) (d : TypeDesc)
    (hu : P.underlying ty = some d) (hd : d.isRow = true) (hi : (P.info? ty).map (·.size) = some cs.size)
    (hk : wpList P ops Q rest (a.put o.dst (.agg cs)) w) : wpList P ops Q (o :: rest) a w :=
  BigFrame.wpList_want hw fun _ hK => wp_load_mid ty x ho g off hx cs.toList d (blk_range h hcs) hu hd (by simpa using hi) (hK _ _ (by simpa using hk))
theorem quiet_load_blk {o : Oper} {a : Act} {C : World → Prop} {K : Act → Prop} (ty : TypeId) (x : Operand) (ho : o.op = .load ty x)
    (off : Nat) (hx : a.eval x = .pointer (some ⟨g, off, none⟩)) {D : Array Value} (hg : ∀ w, C w → w.heap[g]? = some (.cells D t (0, 0))) (cs : Array Value) (hcs : ∀ j, j < cs.size → D[off + j]? = cs[j]?) (d : TypeDesc)
    (hu : P.underlying ty = some d) (hd : d.isRow = true) (hi : (P.info? ty).map (·.size) = some cs.size)
    (h : K (a.put o.dst (.agg cs))) : o.quiet P a C K := by
  refine ⟨.agg cs, fun w hw => ?_, h⟩
  have hr := run_loadAt_mid (P := P) w g off ty cs.toList d (blk_range (t := t) (hg w hw) hcs) hu hd (by simpa using hi)
  unfold Oper.quietAt execOp
  simp only [ho, hx, Sem.run_bind, hr, Result.andThen_ok, Sem.run_pure, Array.toArray_toList]
  exact ⟨rfl, rfl⟩
theorem setCells_blk : ∀ (vs : List Value) (w : World) (o : Nat) (C : Array Value), Blk w g C t → o + vs.length ≤ C.size → Blk (w.setCells g o vs) g (splice C o vs.toArray) t ∧ Only g w (w.setCells g o vs)
  | [], w, o, C, h, _ => ⟨by simpa [splice, World.setCells] using h, ⟨rfl, rfl, rfl, rfl, fun _ _ => rfl⟩⟩
  | v :: vs, w, o, C, h, hl => by
    have h1 := h.set_ o v
    obtain ⟨k1, k2⟩ := setCells_blk vs _ (o + 1) _ h1 (by simp at hl ⊢; omega)
    refine ⟨?_, (Only.setCell w g o v).trans k2⟩
    have e : splice (C.setIfInBounds o v) (o + 1) vs.toArray = splice C o (v :: vs).toArray := by
      unfold splice
      simp only [Array.toList_setIfInBounds, List.size_toArray, List.length_cons]
      congr 1
      simp only [List.length_cons] at hl
      rw [List.take_set, List.drop_set_of_lt (by omega), ← List.append_assoc, ← List.append_assoc]
      have hlt : o < C.toList.length := by simp; omega
      rw [List.take_succ_eq_append_getElem hlt, List.set_append_right _ _ (by simp; omega)]
      simp only [List.length_take, Array.length_toList, Nat.min_eq_left (show o ≤ C.size by omega), Nat.sub_self, List.set_cons_zero, List.append_assoc, List.cons_append, List.nil_append]
      rw [show o + 1 + vs.length = o + (vs.length + 1) from by omega]
    rw [e] at k1
    exact k1
/-- A row into a block that is known whole. -/
theorem wpList_store_blk {ops : Array Oper} {rest : List Oper} {o : Oper} {a : Act} {Q : Exit → Act → World → Prop} (hw : Region.wanted o (yielded ops a.tmps) = true) (ty : TypeId) (x y : Operand) (ho : o.op = .store ty x y)
    (off : Nat) (cs : Array Value) (hx : a.eval x = .pointer (some ⟨g, off, none⟩)) (hy : a.eval y = .agg cs) {C : Array Value} (h : Blk w g C t) (hle : off + cs.size ≤ C.size)
    (hi : (P.info? ty).map (·.size) = some cs.size) (h1 : cs.all (·.oneCell') = true)
    (hk : ∀ w' : World, Blk w' g (splice C off cs) t → Only g w w' → wpList P ops Q rest (a.put o.dst undef) w') : wpList P ops Q (o :: rest) a w := by
  refine BigFrame.wpList_want hw fun K hK => wp_store_mid ty x y ho g off cs hx hy (fun j hj => ⟨?_, h.free _⟩) hi h1 (hK _ _ ?_)
  · rw [h.cell, Array.getElem?_eq_getElem (by omega)]; rfl
  · have := setCells_blk (g := g) (t := t) cs.toList w off C h (by simpa using hle)
    exact hk _ (by simpa using this.1) this.2
theorem Only.setRow (w : World) (g : Nat) (cs : Array Value) : Only g w (w.setRow g cs) :=
  ⟨rfl, rfl, rfl, by simp, fun k hk => setRow_other w g k cs hk⟩
/-- The built-in copy into a block that is known whole. -/
theorem wpList_copy_blk {ops : Array Oper} {rest : List Oper} {o : Oper} {a : Act} {Q : Exit → Act → World → Prop} (hw : Region.wanted o (yielded ops a.tmps) = true) (d s : Operand) (dT sT : TypeId)
    (ho : o.op = .call { callee := .builtin .copy, args := #[d, s], argTypes := #[dT, sT] }) (elem : TypeId) (hu : P.underlying dT = some (.slice elem)) (hsz : (P.info? elem).map (·.size) = some 1)
    (off dLen dCap : Nat) (ad : Addr) (sLen sCap : Nat) (hd : a.eval d = .slice (some ⟨g, off, none⟩) dLen dCap) (hs : a.eval s = .slice (some ad) sLen sCap)
    {C : Array Value} (h : Blk w g C t) (cs : List Value) (hn : cs.length = Nat.min sLen dLen)
    (hsrc : ∀ j v, cs[j]? = some v → w.cell? (ad.add j) = some v) (hfit : off + cs.length ≤ C.size) (h1 : ∀ v ∈ cs, v.oneCell' = true)
    (hk : ∀ w', Blk w' g (splice C off cs.toArray) t → Only g w w' → wpList P ops Q rest (a.put o.dst (goInt cs.length)) w') : wpList P ops Q (o :: rest) a w :=
  BigFrame.wpList_want hw fun K hK => by
    have hrun := run_copy_row (P := P) w dT sT o.type elem g off dLen dCap ad sLen sCap C t cs hu hsz h hn hsrc hfit h1
    unfold Oper.wp
    simp [execOp, ho, resolve, invoke, builtin, hd, hs, hrun, Result.andThen]
    have := hk _ (setRow_heap w g _ (splice C off cs.toArray) t _ h) (Only.setRow w g _)
    refine hK _ _ ?_
    simpa [splice] using this
theorem bytes_one (l : List UInt8) : ∀ v ∈ l.map byteV, v.oneCell' = true := by
  intro v hv
  obtain ⟨b, _, rfl⟩ := List.mem_map.1 hv
  rfl
/-- Bytes out of a known block, as a copy reads them. -/
theorem src_bytes {C : Array Value} {off : Nat} {l : List UInt8} (h : Blk w g C t) (hc : ∀ j, j < l.length → C[off + j]? = some (byteV (l.getD j 0))) : ∀ j v, (l.map byteV)[j]? = some v → w.cell? ((⟨g, off, none⟩ : Addr).add j) = some v := by
  intro j v hv
  have hj : j < l.length := by
    rcases Nat.lt_or_ge j l.length with h1 | h1
    · exact h1
    · rw [List.getElem?_eq_none (by simpa using h1)] at hv; cases hv
  rw [Addr.add_mid, h.cell, hc j hj]
  rw [List.getElem?_map, List.getElem?_eq_getElem hj] at hv
  rw [List.getD_eq_getElem?_getD, List.getElem?_eq_getElem hj]
  simpa using hv
theorem fold_splice : ∀ (cs : List Value) (Z : Array Value) (off : Nat) (k : Nat), off + k + cs.length ≤ Z.size →
    (cs.zipIdx k).foldl (fun acc (x : Value × Nat) => acc.setIfInBounds (off + x.2) x.1) Z = splice Z (off + k) cs.toArray
  | [], Z, off, k, _ => by simp [splice]
  | c :: cs, Z, off, k, h => by
    rw [List.zipIdx_cons, List.foldl_cons, fold_splice cs _ off (k + 1) (by simp at h ⊢; omega)]
    unfold splice
    simp only [Array.toList_setIfInBounds, List.size_toArray, List.length_cons]
    congr 1
    simp only [List.length_cons] at h
    rw [show off + (k + 1) = off + k + 1 from by omega, List.take_set, List.drop_set_of_lt (by omega), ← List.append_assoc, ← List.append_assoc]
    have hlt : off + k < Z.toList.length := by simp; omega
    rw [List.take_succ_eq_append_getElem hlt, List.set_append_right _ _ (by simp; omega)]
    simp only [List.length_take, Array.length_toList, Nat.min_eq_left (show off + k ≤ Z.size by omega), Nat.sub_self, List.set_cons_zero, List.append_assoc, List.cons_append, List.nil_append]
    rw [show off + k + 1 + cs.length = off + k + (cs.length + 1) from by omega]
/-- A struct put together, part by part. -/
theorem fill_cons (place : Nat → Option (Nat × Nat)) (Z : Array Value) (i : Nat) (v : Value) (rest : List (Nat × Value)) (off size : Nat) (cs : Array Value) (hv : v.cells = cs) (hp : place i = some (off, size)) (hs : cs.size = size) (hz : off + size ≤ Z.size) :
    Instr.fill place Z ((i, v) :: rest) = Instr.fill place (splice Z off cs) rest := by
  rw [Instr.fill, hp]
  simp only [hv]
  have h1 : ¬ (decide (cs.size ≠ size) || decide (off + cs.size > Z.size)) = true := by simp [hs]; omega
  rw [if_neg h1]
  have hf := fold_splice cs.toList Z off 0 (by simp; omega)
  rw [Nat.add_zero] at hf
  have e : cs.toList.toArray = cs := by simp
  rw [e] at hf
  rw [← hf, ← Array.foldl_toList]
  simp
theorem run_build_struct {P : Program} {t : TypeId} {Z cells : Array Value} {fs : Array Field} {places : Array (Nat × Nat)} {parts : Array (Nat × Value)} (w : World) (hz : ∀ w, (zeroValue t).run P w = .ok (.agg Z) w) (hu : P.underlying t = some (.struct fs))
    (hpl : ∀ w, (fs.mapM fun f => do pure (f.offset, ← sizeOf f.type) : Sem (Array (Nat × Nat))).run P w = .ok places w) (hf : Instr.fill (places[·]?) Z parts.toList = some cells) : (Instr.build t parts).run P w = .ok (.agg cells) w := by
  unfold Instr.build
  simp only [Sem.run_bind, hz, Result.andThen_ok, run_underlying hu, hpl]
  simp only [Value.cells, hf, Sem.run_pure]
/-- A result that lies in a block that is known whole. -/
theorem results_blk {fn : Func} {p : Tmp} {ty : TypeId} (hr : fn.results = #[.cell p ty]) (tmps : Array Value) {C : Array Value} (h : Blk w g C t) (d : TypeDesc)
    (hp : tmps.getD p undef = .pointer (some ⟨g, 0, none⟩)) (hu : P.underlying ty = some d) (hd : (match d with | .struct _ | .array _ _ => true | _ => false) = true) (hi : (P.info? ty).map (·.size) = some C.size) :
    (results fn tmps).run P w = .ok (.agg C) w := results_cell_row hr tmps w g t C (0, 0) d hp h hu hd hi
end
/-- A zero value of a whole array or struct, kept behind a name. -/
theorem wpList_zero {P : Program} {ops : Array Oper} {rest : List Oper} {o : Oper} {a : Act} {w : World} {Q : Exit → Act → World → Prop} (hw : Region.wanted o (yielded ops a.tmps) = true) (ty : TypeId) (ho : o.op = .build ty #[]) (v : Value)
    (hr : ∀ w, (Instr.build ty #[]).run P w = .ok v w) (hk : wpList P ops Q rest (a.put o.dst v) w) : wpList P ops Q (o :: rest) a w :=
  BigFrame.wpList_want hw fun _ hK => by
    unfold Oper.wp execOp
    simp only [ho, List.map_toArray, List.map_nil, hr, Sem.run_bind, Result.andThen_ok, Sem.run_pure]
    exact hK _ _ hk
/-- A struct or an array put together, kept behind a name. -/
theorem wpList_build {P : Program} {ops : Array Oper} {rest : List Oper} {o : Oper} {a : Act} {w : World} {Q : Exit → Act → World → Prop} (hw : Region.wanted o (yielded ops a.tmps) = true) (ty : TypeId) (ps : List (Nat × Operand)) (ho : o.op = .build ty ps.toArray)
    (vs : List (Nat × Value)) (hv : ps.map (fun p => (p.1, a.eval p.2)) = vs) (v : Value)
    (hr : ∀ w, (Instr.build ty vs.toArray).run P w = .ok v w) (hk : wpList P ops Q rest (a.put o.dst v) w) : wpList P ops Q (o :: rest) a w :=
  BigFrame.wpList_want hw fun _ hK => by
    have hv' : (ps.toArray.map fun (i, x) => (i, a.eval x)) = vs.toArray := by rw [List.map_toArray, ← hv]
    unfold Oper.wp execOp
    simp only [ho, hv', hr, Sem.run_bind, Result.andThen_ok, Sem.run_pure]
    exact hK _ _ hk
/-- A new variable whose zero value is kept behind a name. -/
theorem wpList_fresh {P : Program} {ops : Array Oper} {rest : List Oper} {o : Oper} {a : Act} {w : World} {Q : Exit → Act → World → Prop} (hw : Region.wanted o (yielded ops a.tmps) = true) (ty : TypeId) (ho : o.op = .alloc ty) (z : Array Value)
    (hr : ∀ w, (Instr.alloc ty true (.tuple #[])).run P w = .ok (.pointer (some ⟨w.heap.size, 0, none⟩)) (w.alloc (.cells z ty))) (hk : wpList P ops Q rest (a.put o.dst (.pointer (some ⟨w.heap.size, 0, none⟩))) (w.alloc (.cells z ty))) : wpList P ops Q (o :: rest) a w :=
  BigFrame.wpList_want hw fun _ hK => by
    unfold Oper.wp execOp
    simp only [ho, hr, Sem.run_bind, Result.andThen_ok, Sem.run_pure]
    exact hK _ _ hk
/-- The world under a name of one's own. -/
theorem wp_world {P : Program} {c : Code} {Q : Exit → Act → World → Prop} {a : Act} {w : World} (h : ∀ W, W = w → c.wp P Q a W) : c.wp P Q a w := h w rfl
theorem whole_at {cs : Array Value} : ∀ j, j < cs.size → cs[0 + j]? = cs[j]? := fun j _ => by rw [Nat.zero_add]
/-- '==' of two values whose cells are all plain: as what they read as. -/
theorem equal_lits {P : Program} {m : Nat} {t : TypeId} {xs ys : Array Value} {lx ly : List Lit} {D D' : Nat} {b : Bool} (hk : P.keyTypeAt m t = true) (hm : m ≤ 10000) (fx : (Value.agg xs).formed P t = true) (fy : (Value.agg ys).formed P t = true)
    (kx : P.keyLits D t xs.toList = some lx) (ky : P.keyLits D' t ys.toList = some ly) (hb : b = true ↔ lx = ly) (w : World) : (Op.equalIn 10000 t (.agg xs) (.agg ys)).run P w = .ok b w := by
  obtain ⟨r, hr, hiff⟩ := run_equalIn_deep (P := P) (10000 - m) m t hk w D D' (.agg xs) (.agg ys) lx ly fx fy kx ky
  rw [show 10000 - m + m = 10000 from by omega] at hr
  rw [hr]
  have : r = b := by rw [Bool.eq_iff_iff, hiff, hb]
  rw [this]
theorem eql_lits {P : Program} {m : Nat} {t : TypeId} {xs ys : Array Value} {lx ly : List Lit} {D D' : Nat} {b : Bool} (hk : P.keyTypeAt m t = true) (hm : m ≤ 10000) (fx : (Value.agg xs).formed P t = true) (fy : (Value.agg ys).formed P t = true)
    (kx : P.keyLits D t xs.toList = some lx) (ky : P.keyLits D' t ys.toList = some ly) (hb : b = true ↔ lx = ly) (w : World) : (binOp .eql t (.agg xs) (.agg ys)).run P w = .ok (.bool b) w := by
  rw [run_eql_struct, equal_lits hk hm fx fy kx ky hb]; rfl
theorem neq_lits {P : Program} {m : Nat} {t : TypeId} {xs ys : Array Value} {lx ly : List Lit} {D D' : Nat} {b : Bool} (hk : P.keyTypeAt m t = true) (hm : m ≤ 10000) (fx : (Value.agg xs).formed P t = true) (fy : (Value.agg ys).formed P t = true)
    (kx : P.keyLits D t xs.toList = some lx) (ky : P.keyLits D' t ys.toList = some ly) (hb : b = true ↔ lx = ly) (w : World) : (binOp .neq t (.agg xs) (.agg ys)).run P w = .ok (.bool (!b)) w := by
  rw [run_neq_struct, equal_lits hk hm fx fy kx ky hb]; rfl
/-- An operation on two values that is known whole. -/
theorem wpList_bin {P : Program} {ops : Array Oper} {rest : List Oper} {o : Oper} {a : Act} {w : World} {Q : Exit → Act → World → Prop} (hw : Region.wanted o (yielded ops a.tmps) = true) (op : BinOp) (t t' : TypeId) (x y : Operand) (ho : o.op = .binOp op t x y t')
    (X Y : Array Value) (hx : a.eval x = .agg X) (hy : a.eval y = .agg Y) (hg : P.eqGuardType P.depth t = false) (v : Value) (hr : ∀ w, (binOp op t (.agg X) (.agg Y)).run P w = .ok v w)
    (hk : wpList P ops Q rest (a.put o.dst v) w) : wpList P ops Q (o :: rest) a w :=
  BigFrame.wpList_want hw fun _ hK => by
    unfold Oper.wp execOp
    simp only [ho, hx, hy, Sem.run_bind, run_eqGuard_agg w op t x y X Y hg, hr, Result.andThen_ok, Sem.run_pure]
    exact hK _ _ hk
theorem quiet_bin {P : Program} {o : Oper} {a : Act} {C : World → Prop} {K : Act → Prop} (op : BinOp) (t t' : TypeId) (x y : Operand) (ho : o.op = .binOp op t x y t')
    (X Y : Array Value) (hx : a.eval x = .agg X) (hy : a.eval y = .agg Y) (hg : P.eqGuardType P.depth t = false) (v : Value) (hr : ∀ w, (binOp op t (.agg X) (.agg Y)).run P w = .ok v w)
    (h : K (a.put o.dst v)) : o.quiet P a C K := by
  refine ⟨v, fun w _ => ?_, h⟩
  unfold Oper.quietAt execOp
  simp only [ho, hx, hy, Sem.run_bind, run_eqGuard_agg w op t x y X Y hg, hr, Result.andThen_ok, Sem.run_pure]
  exact ⟨rfl, rfl⟩
theorem mapM_range {α : Type} (f : Nat → Option α) (g : Nat → α) : ∀ (is : List Nat), (∀ i ∈ is, f i = some (g i)) → is.mapM f = some (is.map g)
  | [], _ => rfl
  | i :: is, h => by
    rw [List.mapM_cons, h i (List.mem_cons_self ..), mapM_range f g is fun j hj => h j (List.mem_cons_of_mem _ hj)]
    rfl
def byteL (b : UInt8) : Lit := .int .u8 (b.toNat : Int)
theorem byteL_wf (b : UInt8) : (Lit.int .u8 (b.toNat : Int)).wf = true := by
  have := b.toNat_lt
  simp only [Lit.wf, IntKind.min, IntKind.max, IntKind.signed, IntKind.bits, Bool.and_eq_true]
  constructor <;> simp <;> omega
/-- What an array of bytes reads as. -/
theorem lits_bytes {P : Program} {t e : TypeId} {n : Nat} (l : List UInt8) (hl : l.length = n) (ht : P.underlying t = some (.array n e)) (he : P.underlying e = some (.int .u8)) (hc : P.cellsOf e = 1) (hn : P.cellsOf t = n) (d : Nat) :
    P.keyLits (d + 2) t (l.map byteV) = some (l.map byteL) := by
  unfold Program.keyLits
  rw [ht]
  dsimp only
  rw [if_pos (by rw [hn, List.length_map, hl]), mapM_range _ (fun i => [byteL (l.getD i 0)])]
  · simp only [Option.map_some, Option.some.injEq]
    have : ∀ (k : Nat) (m : List UInt8), m.length = k → ((List.range k).map fun i => [byteL (m.getD i 0)]).flatten = m.map byteL := by
      intro k
      induction k with
      | zero => intro m hm; have := List.eq_nil_of_length_eq_zero hm; subst this; rfl
      | succ k ih =>
        intro m hm
        match m, hm with
        | b :: m, hm =>
          rw [List.range_succ_eq_map, List.map_cons, List.flatten_cons, List.map_map]
          have := ih m (by simpa using hm)
          simp only [List.getD_cons_zero, List.map_cons, List.singleton_append]
          congr 1
    exact this n l hl
  · intro i hi
    have hi' : i < l.length := by rw [hl]; exact List.mem_range.1 hi
    rw [hc, Nat.mul_one]
    have e1 : ((l.map byteV).drop i).take 1 = [byteV (l.getD i 0)] := by
      rw [List.drop_eq_getElem_cons (by simpa using hi')]
      simp [List.getD_eq_getElem?_getD, hi']
    rw [e1]
    unfold Program.keyLits
    rw [he]
    dsimp only [byteV]
    rw [if_pos ⟨rfl, byteL_wf _⟩]
    rfl
theorem byteL_inj {a b : UInt8} (h : byteL a = byteL b) : a = b := by
  unfold byteL at h
  injection h with _ h
  exact UInt8.toNat_inj.1 (by omega)
theorem map_byteL {l m : List UInt8} : l.map byteL = m.map byteL ↔ l = m :=
  ⟨fun h => (List.map_inj_right (fun _ _ => byteL_inj)).1 h, fun h => by rw [h]⟩
/-- The label of noughts; a prefix's cells. -/
def zlab : List UInt8 := List.replicate 32 0
theorem zlab_length : zlab.length = 32 := by rfl
def prefA (n : Int) (l : List UInt8) : Array Value := (.int .i64 n :: l.map byteV).toArray
theorem prefA_size (n : Int) (l : List UInt8) : (prefA n l).size = l.length + 1 := by simp [prefA]
theorem prefA_0 (n : Int) (l : List UInt8) : (prefA n l)[0]? = some (.int .i64 n) := by simp [prefA]
theorem prefA_lab (n : Int) (l : List UInt8) : ∀ j, j < (labA l).size → (prefA n l)[1 + j]? = (labA l)[j]? := fun j _ => by
  rw [Nat.add_comm]; simp [prefA, labA]
theorem prefA_get (n : Int) (l : List UInt8) (j : Nat) (h : j < l.length) : (prefA n l)[1 + j]? = some (.int .u8 ((l.getD j 0).toNat : Int)) := by
  rw [prefA_lab n l j (by rw [labA_size]; exact h)]; exact labA_get l j h
theorem prefA_set (n : Int) (l : List UInt8) (j : Nat) (b : UInt8) : (prefA n l).setIfInBounds (1 + j) (byteV b) = prefA n (l.set j b) := by
  rw [Nat.add_comm]; simp [prefA, List.map_set]
theorem prefA_all (n : Int) (l : List UInt8) : (prefA n l).all (·.oneCell') = true := by
  rw [Array.all_eq_true_iff_forall_mem]
  intro v hv
  simp only [prefA, List.mem_toArray, List.mem_cons, List.mem_map] at hv
  rcases hv with rfl | ⟨b, _, rfl⟩ <;> rfl
/-- Two results, of which the first lies in a block that is known whole. -/
theorem results_blk2 {P : Program} {w : World} {g : Nat} {t : TypeId} {fn : Func} {p q : Tmp} {ty : TypeId} (hr : fn.results = #[.cell p ty, .tmp q]) (tmps : Array Value) {C : Array Value} (h : Blk w g C t) (d : TypeDesc) (v : Value)
    (hp : tmps.getD p undef = .pointer (some ⟨g, 0, none⟩)) (hq : tmps.getD q undef = v) (hu : P.underlying ty = some d) (hd : (match d with | .struct _ | .array _ _ => true | _ => false) = true) (hi : (P.info? ty).map (·.size) = some C.size) :
    (results fn tmps).run P w = .ok (.tuple #[.agg C, v]) w := by
  have hp' : tmps[p]?.getD undef = .pointer (some ⟨g, 0, none⟩) := by simpa using hp
  have hq' : tmps[q]?.getD undef = v := by simpa using hq
  simp [results, hr, hp', hq', asAddr, run_loadVar_row w g t ty C (0, 0) d h hu hd hi]
theorem labA_byte (l : List UInt8) (j : Nat) (h : j < l.length) : (labA l)[j]? = some (byteV (l.getD j 0)) := labA_get l j h
theorem prefA_splice (n : Int) (l cs : List UInt8) : splice (prefA n l) 1 (cs.map byteV).toArray = prefA n (cs ++ l.drop cs.length) := by
  unfold splice prefA
  simp [List.map_drop, Nat.add_comm 1]
theorem labA_all (l : List UInt8) : (labA l).all (·.oneCell') = true := by
  rw [Array.all_eq_true_iff_forall_mem]
  intro v hv
  simp only [labA, List.mem_toArray, List.mem_map] at hv
  obtain ⟨b, _, rfl⟩ := hv
  rfl
end Go.Proofs.Ytnfabofkfnmplaa
