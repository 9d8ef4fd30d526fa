/- The walk of span. -/
import Derived.Test.YtnfabofkfnmplaaLvC
import Derived.RegionTactic
import Derived.ChangeAlike
import Derived.BigRegion
import Derived.Deep.Cut
namespace Go.Proofs.Ytnfabofkfnmplaa
open Go.RowKit

theorem str_min (x y : List UInt8) (ts : Array TypeId) (t : TypeId) (w : World) : (Builtin.min_ ts t #[.string ⟨x.toArray⟩, .string ⟨y.toArray⟩]).run Try.prog w = .ok (.string ⟨(L.minB x y).toArray⟩) w := by
  have h : (Op.stringOp .leq ⟨x.toArray⟩ ⟨y.toArray⟩).run Try.prog w = .ok (.bool (!L.B y x)) w := str_leq x y w
  unfold L.minB
  cases hb : L.B y x with
  | true =>
    rw [hb] at h
    simp [Builtin.min_, Builtin.min2, h, Result.andThen, asBool]
  | false =>
    rw [hb] at h
    simp [Builtin.min_, Builtin.min2, h, Result.andThen, asBool]
theorem str_max (x y : List UInt8) (ts : Array TypeId) (t : TypeId) (w : World) : (Builtin.max_ ts t #[.string ⟨x.toArray⟩, .string ⟨y.toArray⟩]).run Try.prog w = .ok (.string ⟨(L.maxB x y).toArray⟩) w := by
  have h : (Op.stringOp .geq ⟨x.toArray⟩ ⟨y.toArray⟩).run Try.prog w = .ok (.bool (!L.B x y)) w := str_geq x y w
  unfold L.maxB
  cases hb : L.B x y with
  | true =>
    rw [hb] at h
    simp [Builtin.max_, Builtin.max2, h, Result.andThen, asBool]
  | false =>
    rw [hb] at h
    simp [Builtin.max_, Builtin.max2, h, Result.andThen, asBool]
set_option maxRecDepth 100000 in
set_option maxHeartbeats 4000000 in
theorem span_any (l : List L.Fi) (v : Value) (w : World) (h : FRead w v l) (hl : l.length ≤ 1000) (h0 : l ≠ []) :
    Calls Try.prog 32 #[v] w fun e w' => ∃ a : L.Fi, e = .returned (fiV a) ∧ (a.first, a.last) = L.span l ∧ Below w.heap.size w w' := by
  obtain ⟨A, c, rfl, hcap, h⟩ := fread_open h
  obtain ⟨f0, hf0⟩ : ∃ f, l[0]? = some f := ⟨_, List.getElem?_eq_getElem (List.length_pos_iff.2 h0)⟩
  obtain ⟨g, o, rfl, hg, cR⟩ := fread_at h hf0
  rw [Nat.zero_mul, Nat.add_zero] at cR
  have hspan : L.span l = L.spanGo (f0.first, f0.last) (l.drop 0) := by
    cases l with
    | nil => exact absurd rfl h0
    | cons x l => injection hf0 with hf0; subst hf0; rfl
  have q1 : (0 : Int) < (l.length : Int) := by have := List.length_pos_iff.2 h0; omega
  generalize L.span l = R at *
  have B2 := Blk.new w #[.int .i64 0, .int .i64 0, .int .i64 0, .string ⟨#[]⟩, .string ⟨#[]⟩] 33
  have hB2 := below_alloc1 w (.cells #[.int .i64 0, .int .i64 0, .int .i64 0, .string ⟨#[]⟩, .string ⟨#[]⟩] 33)
  have cR0 : (w.alloc (.cells #[.int .i64 0, .int .i64 0, .int .i64 0, .string ⟨#[]⟩, .string ⟨#[]⟩] 33)).rangeAt g o [.int .i64 (f0.num : Int), .int .i64 (f0.lev : Int), .int .i64 (f0.size : Int), .string ⟨f0.first.toArray⟩, .string ⟨f0.last.toArray⟩] := fun j u hj => (hB2.cell (p := ⟨g, o + j, none⟩) hg).trans (cR j u hj)
  have hsz : (Try.prog.info? 33).map (·.size) = some [Value.int .i64 (f0.num : Int), .int .i64 (f0.lev : Int), .int .i64 (f0.size : Int), .string ⟨f0.first.toArray⟩, .string ⟨f0.last.toArray⟩].length := size_fi
  obtain ⟨-, B3, hB3⟩ := two_new w #[.int .i64 0, .int .i64 0, .int .i64 0, .string ⟨#[]⟩, .string ⟨#[]⟩] #[.int .i64 (f0.num : Int), .int .i64 (f0.lev : Int), .int .i64 (f0.size : Int), .string ⟨f0.first.toArray⟩, .string ⟨f0.last.toArray⟩] 33 33
  have B2' := B2.alloc (.cells #[.int .i64 (f0.num : Int), .int .i64 (f0.lev : Int), .int .i64 (f0.size : Int), .string ⟨f0.first.toArray⟩, .string ⟨f0.last.toArray⟩] 33)
  go_enter Try.func32, Try.ntmps32
  go_wp2_with (refine wpList_load_mid rfl 33 (.tmp 7) rfl g o rfl _ _ cR0 Try.underlying33 rfl hsz ?_; go_frame)
  go_loopw [11] (fun i wr => ∃ (k : Nat) (a b : List UInt8), k ≤ l.length ∧ i = .int .i64 (k : Int) ∧ Hid (R = L.spanGo (a, b) (l.drop k)) ∧ Blk wr w.heap.size #[.int .i64 0, .int .i64 0, .int .i64 0, .string ⟨#[]⟩, .string ⟨#[]⟩] 33 ∧ Blk wr (w.heap.size + 1) #[.int .i64 (f0.num : Int), .int .i64 (f0.lev : Int), .int .i64 (f0.size : Int), .string ⟨a.toArray⟩, .string ⟨b.toArray⟩] 33 ∧ Below w.heap.size w wr) (fun i _ => l.length - (intOf i).toNat)
  case atStart => exact ⟨0, f0.first, f0.last, Nat.zero_le _, rfl, Lib.hid hspan, B2', B3, hB3⟩
  case round =>
    clear B2 B2' B3 hB2 hB3 cR0 hsz hspan cR
    obtain ⟨k, a, b, hk, rfl, hgo, B2, B3, hB⟩ := hrel
    have q0 : (0 : Int) ≤ (k : Int) := by omega
    by_cases hm : k < l.length
    · have d1 : decide ((k : Int) < (l.length : Int)) = true := decide_eq_true (by omega)
      have d1' : decide (k < l.length) = true := decide_eq_true hm
      have q1 : (k : Int) < (l.length : Int) := by omega
      have hw1 : IntKind.i64.wrap ((k : Int) + 1) = ((k + 1 : Nat) : Int) := by rw [IntWalk.i64_in _ (by omega)]; omega
      obtain ⟨f, hf⟩ : ∃ f, l[k]? = some f := ⟨_, List.getElem?_eq_getElem hm⟩
      have cR' : wr.rangeAt g (o + k * 5) [.int .i64 (f.num : Int), .int .i64 (f.lev : Int), .int .i64 (f.size : Int), .string ⟨f.first.toArray⟩, .string ⟨f.last.toArray⟩] := by
        obtain ⟨g', o', e, _, r⟩ := fread_at (h.at_ hB) hf
        injection e with e
        injection e with e1 e2
        subst e1 e2
        exact r
      have hsz : (Try.prog.info? 33).map (·.size) = some [Value.int .i64 (f.num : Int), .int .i64 (f.lev : Int), .int .i64 (f.size : Int), .string ⟨f.first.toArray⟩, .string ⟨f.last.toArray⟩].length := size_fi
      have hdr : l.drop k = f :: l.drop (k + 1) := by
        obtain ⟨h1, rfl⟩ := List.getElem?_eq_some_iff.1 hf
        exact List.drop_eq_getElem_cons h1
      have hgo2 := hgo.out
      rw [hdr] at hgo2
      have Hgo := Lib.hid (show R = L.spanGo (L.minB a f.first, L.maxB b f.last) (l.drop (k + 1)) from hgo2)
      have hmin := str_min a f.first
      have hmax := str_max b f.last
      have B2a := B2.alloc (.cells #[.int .i64 (f.num : Int), .int .i64 (f.lev : Int), .int .i64 (f.size : Int), .string ⟨f.first.toArray⟩, .string ⟨f.last.toArray⟩] 33)
      have B3a := B3.alloc (.cells #[.int .i64 (f.num : Int), .int .i64 (f.lev : Int), .int .i64 (f.size : Int), .string ⟨f.first.toArray⟩, .string ⟨f.last.toArray⟩] 33)
      have hBa := hB.alloc hB.size (.cells #[.int .i64 (f.num : Int), .int .i64 (f.lev : Int), .int .i64 (f.size : Int), .string ⟨f.first.toArray⟩, .string ⟨f.last.toArray⟩] 33)
      have X1 := Blk.new wr #[.int .i64 (f.num : Int), .int .i64 (f.lev : Int), .int .i64 (f.size : Int), .string ⟨f.first.toArray⟩, .string ⟨f.last.toArray⟩] 33
      have hk1 := Lib.hid (show k + 1 ≤ l.length by omega)
      have hwz : w.heap.size + 1 < wr.heap.size := B3.lt
      clear hgo hgo2 hdr hf
      generalize L.minB a f.first = ma at *
      generalize L.maxB b f.last = mb at *
      go_upto_region 5 with (refine wpList_load_mid rfl 33 (.tmp 13) rfl g (o + k * 5) rfl _ _ cR' Try.underlying33 rfl hsz ?_; go_frame)
      refine wp_world fun W1 hW1 => ?_
      rw [← hW1] at B2a B3a hBa X1
      clear hW1 cR' hsz d1 d1' q1 hB B2 B3
      obtain ⟨⟨x0, x1, x2, x3, x4⟩, -⟩ := free5 X1
      obtain ⟨⟨y0, y1, y2, y3, y4⟩, z0, z1, z2, z3, z4⟩ := free5 B3a
      have hne1 : ¬ wr.heap.size = w.heap.size + 1 := by omega
      have hne2 : ¬ w.heap.size + 1 = wr.heap.size := by omega
      have B2f := (B2a.far (p := ⟨w.heap.size + 1, 3, none⟩) (show w.heap.size ≠ w.heap.size + 1 by omega) (.string ⟨ma.toArray⟩)).far (p := ⟨w.heap.size + 1, 4, none⟩) (show w.heap.size ≠ w.heap.size + 1 by omega) (.string ⟨mb.toArray⟩)
      have B3f := (B3a.set_ 3 (.string ⟨ma.toArray⟩)).set_ 4 (.string ⟨mb.toArray⟩)
      have hBf := ((Only.setCell W1 (w.heap.size + 1) 3 (.string ⟨ma.toArray⟩)).trans (Only.setCell _ (w.heap.size + 1) 4 (.string ⟨mb.toArray⟩))).below hBa (by omega)
      go_region
      go_wp2
      go_roundw
      case rel => exact ⟨k + 1, ma, mb, hk1.out, rfl, Hgo, B2f.drew, B3f.drew, hBf.drew⟩
      case measure => simp [intOf]; have := hk1.out; omega
    · have d1 : decide ((k : Int) < (l.length : Int)) = false := decide_eq_false (by omega)
      have d1' : decide (k < l.length) = false := decide_eq_false hm
      have hend := hgo.out
      rw [List.drop_of_length_le (by omega)] at hend
      have Hend := Lib.hid (show R = (a, b) from hend)
      obtain ⟨⟨x0, x1, x2, x3, x4⟩, z0, z1, z2, z3, z4⟩ := free5 B2
      obtain ⟨⟨y0, y1, y2, y3, y4⟩, -⟩ := free5 B3
      clear hend hgo
      have hne1 : ¬ w.heap.size = w.heap.size + 1 := by omega
      have hne2 : ¬ w.heap.size + 1 = w.heap.size := by omega
      go_wp2
      have b1 := ((((B2.set_ 0 (.int .i64 (f0.num : Int))).set_ 1 (.int .i64 (f0.lev : Int))).set_ 2 (.int .i64 (f0.size : Int))).set_ 3 (.string ⟨a.toArray⟩)).set_ 4 (.string ⟨b.toArray⟩)
      have o1 := ((((Only.setCell wr w.heap.size 0 (.int .i64 (f0.num : Int))).trans (Only.setCell _ w.heap.size 1 (.int .i64 (f0.lev : Int)))).trans (Only.setCell _ w.heap.size 2 (.int .i64 (f0.size : Int)))).trans (Only.setCell _ w.heap.size 3 (.string ⟨a.toArray⟩))).trans (Only.setCell _ w.heap.size 4 (.string ⟨b.toArray⟩))
      exact bodyPost_ret (v := fiV ⟨f0.num, f0.lev, f0.size, a, b⟩) (results_blk (by rfl) _ b1 _ (by rfl) Try.underlying33 (by rfl) size_fi) rfl ⟨⟨f0.num, f0.lev, f0.size, a, b⟩, rfl, Hend.out.symm, o1.below hB (Nat.le_refl _)⟩
end Go.Proofs.Ytnfabofkfnmplaa
