/- The walks of journal.Segments, chirographref04.Same, and the journal's small ones. -/
import Derived.Test.YtknkbioalohofaaJrB
import Derived.Test.YtknkbioalohofaaPureSeg
import Derived.Test.YtknkbioalohofaaWAll
import Derived.Test.YtknkbioalohofaaWWrap
import Derived.Laws.OwnMore
namespace Go.Proofs.Ytknkbioalohofaa
open Go.RowKit

section
variable {ops : Array Oper} {o : Oper} {a : Act} {w : World} {e : TypeId} {v u z : Value} {b : Nat} {xs ys : List Value}
/-- A row behind a row. -/
theorem run_append_rows {w : World} (h : Row1 w e v xs) (h' : Row1 w e u ys) (hinfo : Info1 e z b) (t ty : TypeId) (ht : Try.prog.underlying t = some (.slice e)) (hone : ∀ x ∈ ys, x.oneCell' = true) (hlen : (xs.length + ys.length) * b ≤ 140737488355328) :
    ∃ v' w', (Builtin.append_ #[t, t] ty #[v, u]).run Try.prog w = .ok v' w' ∧ Row1 w' e v' (xs ++ ys) ∧ w.grownBy w' v.ownBlock ∧ (v'.ownBlock = v.ownBlock ∨ ∃ k, w.heap.size ≤ k ∧ v'.ownBlock = some k) := by
  rcases h'.2 with ⟨rfl, h0⟩ | ⟨g, cap, cur, rfl, h2⟩
  · obtain rfl := List.eq_nil_of_length_eq_zero h0
    obtain ⟨i0, hi, -, -, -⟩ := info_parts hinfo.1
    exact ⟨v, w, run_append_owned_none w 0 t ty e i0 1 ht hi v xs.length xs h, by rw [List.append_nil]; exact h, World.grownBy.refl w _, .inl rfl⟩
  · exact run_append_row h hinfo t ty ht ⟨g, 0, none⟩ ys.length cap ys rfl (fun j x hj => h'.cells rfl j x hj) hone hlen
theorem wpList_append_rows {rest : List Oper} {Q : Exit → Act → World → Prop} (hg : o.guard = none) (hinfo : Info1 e z b) (s x : Operand) (t : TypeId) (hop : o.op = Op.call { callee := Callee.builtin Builtin.append, args := #[s, x], argTypes := #[t, t] }) (ht : Try.prog.underlying t = some (.slice e)) (hs : a.eval s = v) (h : Row1 w e v xs)
    (hx : a.eval x = u) (h' : Row1 w e u ys) (hone : ∀ x ∈ ys, x.oneCell' = true) (hlen : (xs.length + ys.length) * b ≤ 140737488355328)
    (hK : ∀ v' w', Row1 w' e v' (xs ++ ys) → w.grownBy w' v.ownBlock → (v'.ownBlock = v.ownBlock ∨ ∃ k, w.heap.size ≤ k ∧ v'.ownBlock = some k) → wpList Try.prog ops Q rest (a.put o.dst v') w') : wpList Try.prog ops Q (o :: rest) a w :=
  wpList_plain hg fun _ hK' => by
    obtain ⟨v', w', hrun, r1, r2, r3⟩ := run_append_rows h h' hinfo t o.type ht hone hlen
    unfold Oper.wp
    simp [execOp, hop, resolve, invoke, builtin, hs, hx, hrun, Result.andThen]
    exact hK' _ _ (hK v' w' r1 r2 r3)
end

namespace Jr
def numV (x : Sg) : Value := .int .i64 (x.k : Int)
end Jr
set_option maxRecDepth 100000 in
set_option maxHeartbeats 2000000 in
theorem segments_any {B : Nat} {w : World} {p : Nat} {M : D.Dk} (h : DkAt B w p M) (hd : M.dead = false) (segs : List Jr.Sg) (hf : M.files = Jr.files segs) (hs : Jr.Up segs) :
    Calls Try.prog 88 #[.pointer (some ⟨p, 0, none⟩)] w fun e w' => ∃ v, e = .returned v ∧ Row1 w' 3 v (segs.map Jr.numV) ∧ Below w.heap.size w w' := by
  have hlen : segs.length ≤ 4096 := by obtain ⟨mb, Es, h'⟩ := h; have := h'.few; rw [hf, Jr.files_length] at this; exact this
  have hL : D.list M = segs.map fun x => Jr.name x.k := by unfold D.list; rw [hd, hf, Jr.files_names]; rfl
  have la := list_any h
  rw [hL, List.map_map] at la
  have LA := Lib.hid la
  clear la hL hf hd h
  have hlm : (segs.map (encStr ∘ fun x => Jr.name x.k)).length = segs.length := List.length_map _
  go_enter Try.func88, Try.ntmps88
  go_wp2_with (go_at_call 55; (with_reducible refine LA.out.mono ?_); rintro e w1 ⟨nv, rfl, hrow, -, hb1⟩; obtain ⟨A, c, rfl, hc, hcell⟩ := hrow.reads; rw [hlm] at hc ⊢)
  clear hrow LA
  go_loopw [3, 10] (fun v i wr => ∃ k : Nat, k ≤ segs.length ∧ i = .int .i64 (k : Int) ∧ Row1 wr 3 v ((segs.take k).map Jr.numV) ∧ (v.ownBlock = none ∨ ∃ k, w1.heap.size ≤ k ∧ v.ownBlock = some k) ∧ Below w1.heap.size w1 wr) (fun _ i _ => segs.length - (intOf i).toNat)
  case atStart => exact ⟨0, by omega, rfl, Row1.nil _ _, .inl rfl, Below.refl _ _⟩
  case round =>
    obtain ⟨k, hk, rfl, hrow, hown, hB⟩ := hrel
    have j0 : (0 : Int) ≤ (k : Int) := by omega
    by_cases hm : k < segs.length
    · have d1 : decide ((k : Int) < (segs.length : Int)) = true := decide_eq_true (by omega)
      have j1 : (k : Int) < (segs.length : Int) := by omega
      obtain ⟨x, hx⟩ : ∃ x, segs[k]? = some x := ⟨_, List.getElem?_eq_getElem hm⟩
      obtain ⟨g, o, rfl, hg, hcl⟩ : ∃ g o, A = some ⟨g, o, none⟩ ∧ g < w1.heap.size ∧ ∀ j u, (segs.map (encStr ∘ fun x => Jr.name x.k))[j]? = some u → w1.cell? ⟨g, o + j, none⟩ = some u := by
        rcases hcell with e | e
        · exfalso; have h9 : segs.length = 0 := by rw [← hlm, e]; rfl
          omega
        · exact e
      have cT : wr.cell? ⟨g, o + k, none⟩ = some (.string ⟨(Jr.name x.k).toArray⟩) := (hB.cell (p := ⟨g, o + k, none⟩) hg).trans (hcl k _ (by rw [List.getElem?_map, hx]; rfl))
      have hxk : x.k < 10000000000 := hs.lt (List.mem_of_getElem? hx)
      have NU := Lib.hid (fun W => number_any x.k hxk W)
      have d2 : decide ((0 : Int) ≤ (x.k : Int)) = true := decide_eq_true (by omega)
      have hlen2 : ((segs.take k).map Jr.numV).length + 1 ≤ 5000 := by rw [List.length_map, List.length_take]; omega
      have hsn : (segs.take k).map Jr.numV ++ [.int .i64 (x.k : Int)] = (segs.take (k + 1)).map Jr.numV := by
        rw [show segs.take (k + 1) = segs.take k ++ [x] by rw [List.take_add_one, hx]; rfl, List.map_append]; rfl
      have Hsn := Lib.hid hsn
      clear hsn hcl hcell
      generalize (segs.take k).map Jr.numV = row at *
      go_wp2_with (first | (go_at_call 99; (with_reducible refine (NU.out _).mono ?_); rintro e w2 ⟨rfl, hb2⟩; have hB2 := hB.trans (hb2.mono hB.size); have hrow2 := hrow.at_ hb2) | (at_builtin; refine wpList_append_row rfl info_int (.tmp 18) (.tmp 20) 39 rfl Try.underlying39 rfl (hrow2.alloc _) ⟨w2.heap.size, 0, none⟩ 1 1 [.int .i64 (x.k : Int)] rfl rfl (new_cells _ _ _ rfl _) (by simp [Value.oneCell']) (by omega) ?_; intro v1 w3 hrow3 hg3 hr3))
      have hB1 := hB2.alloc (o := .cells #[.int .i64 (x.k : Int)] 3) hB2.size
      have hs1 : w1.heap.size ≤ (w2.alloc (.cells #[.int .i64 (x.k : Int)] 3)).heap.size := by have := hB2.size; simp; omega
      have hB3 := below_grown_own hB1 hs1 hg3 hown
      have hown2 := own_later hown hs1 hr3
      rw [Hsn.out] at hrow3
      go_roundw
      case rel => exact ⟨k + 1, by omega, by go_num, hrow3, hown2, hB3⟩
      case measure => simp [intOf]; omega
    · obtain rfl : k = segs.length := by omega
      rw [List.take_length] at hrow
      go_wp2
      go_ret
      exact ⟨_, rfl, hrow, hb1.trans (hB.mono hb1.size)⟩

/-- A journal's block. -/
def JrAt (w : World) (j p : Nat) (n : Nat) : Prop := Blk w j #[.pointer (some ⟨p, 0, none⟩), .int .i64 (n : Int)] 144
theorem now_any {w : World} {j p n : Nat} (h : JrAt w j p n) : Calls Try.prog 58 #[.pointer (some ⟨j, 0, none⟩)] w fun e w' => e = .returned (.int .i64 (n : Int)) ∧ w' = w := by
  have c1 := h.cellv (i := 1) rfl
  go_enter Try.func58, Try.ntmps58
  go_wp2
  go_ret
  exact ⟨rfl, rfl⟩
theorem turn_any {w : World} {j p n : Nat} (h : JrAt w j p n) (hn : n < 1000000000) : Calls Try.prog 60 #[.pointer (some ⟨j, 0, none⟩)] w fun e w' => e = .returned (.int .i64 ((n + 1 : Nat) : Int)) ∧ JrAt w' j p (n + 1) ∧ Only j w w' := by
  have c1 := h.cellv (i := 1) rfl
  have f1 := h.free 1
  have hw : IntKind.i64.wrap ((n : Int) + 1) = ((n + 1 : Nat) : Int) := by rw [IntWalk.i64_in _ (by omega)]; omega
  have c2 := (h.set_ 1 (.int .i64 ((n + 1 : Nat) : Int))).cellv (i := 1) (v := .int .i64 ((n + 1 : Nat) : Int)) rfl
  have h2 : JrAt (w.setCell ⟨j, 1, none⟩ (.int .i64 ((n + 1 : Nat) : Int))) j p (n + 1) := h.set_ 1 (.int .i64 ((n + 1 : Nat) : Int))
  have o2 := Only.setCell w j 1 (.int .i64 ((n + 1 : Nat) : Int))
  go_enter Try.func60, Try.ntmps60
  go_wp2
  go_ret
  exact ⟨rfl, h2, o2⟩
end Go.Proofs.Ytknkbioalohofaa
