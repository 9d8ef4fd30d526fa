/- The walk of slices.MinFunc, over files, by their numbers. -/
import Derived.Test.YtnfabofkfnmplaaLvQ
import Derived.Test.YtnfabofkfnmplaaLvO
import Derived.Test.YtnfabofkfnmplaaLvKb
import Derived.Deep.Cut
namespace Go.Proofs.Ytnfabofkfnmplaa
open Go.RowKit

theorem enters22 : ∀ args w, (callFunc 22 args).run Try.prog w = .ok (.enter 22 args) w := by
  intro args w
  kernel_rfl
set_option maxRecDepth 100000 in
set_option maxHeartbeats 4000000 in
theorem minf_any (l : List L.Fi) (v : Value) (w : World) (h : FRead w v l) (hl : l.length ≤ 1000) (h0 : l ≠ []) :
    Calls Try.prog 21 #[v, .func (.func 22) #[] #[]] w fun e w' => ∃ o ∈ l, e = .returned (fiV o) ∧ Below w.heap.size w w' := by
  obtain ⟨A, c, rfl, hcap, h⟩ := fread_open h
  have OC := Lib.hid (fun a b W => clos_cmp a b W)
  obtain ⟨m, hm⟩ : ∃ m, l.length = m + 1 := ⟨l.length - 1, by have := List.length_pos_iff.2 h0; omega⟩
  have d0 : decide ((l.length : Int) < 1) = false := decide_eq_false (by omega)
  have hpos : (0 : Int) < (l.length : Int) := by omega
  obtain ⟨f0, hf0⟩ : ∃ f, l[0]? = some f := ⟨_, List.getElem?_eq_getElem (by omega)⟩
  obtain ⟨g, o, rfl, hg, cR⟩ := fread_at (h.at_ (Below.refl _ _)) hf0
  have hmem0 := Lib.hid (List.mem_of_getElem? hf0)
  have hsz : ∀ f : L.Fi, (Try.prog.info? 33).map (·.size) = some [Value.int .i64 (f.num : Int), .int .i64 (f.lev : Int), .int .i64 (f.size : Int), .string ⟨f.first.toArray⟩, .string ⟨f.last.toArray⟩].length := fun _ => size_fi
  replace hm := Lib.hid hm
  rw [Nat.zero_mul, Nat.add_zero] at cR
  have bg := below_alloc1 w (.cells #[.int .i64 0, .int .i64 0, .int .i64 0, .string ⟨#[]⟩, .string ⟨#[]⟩] 33)
  have cR' : (w.alloc (.cells #[.int .i64 0, .int .i64 0, .int .i64 0, .string ⟨#[]⟩, .string ⟨#[]⟩] 33)).rangeAt g o [.int .i64 (f0.num : Int), .int .i64 (f0.lev : Int), .int .i64 (f0.size : Int), .string ⟨f0.first.toArray⟩, .string ⟨f0.last.toArray⟩] := range_below bg hg cR
  obtain ⟨R0, X0, hB0⟩ := two_new w #[.int .i64 0, .int .i64 0, .int .i64 0, .string ⟨#[]⟩, .string ⟨#[]⟩] #[.int .i64 (f0.num : Int), .int .i64 (f0.lev : Int), .int .i64 (f0.size : Int), .string ⟨f0.first.toArray⟩, .string ⟨f0.last.toArray⟩] 33 33
  clear hf0 cR
  go_enter Try.func21, Try.ntmps21
  go_wp2_with (refine wpList_load_mid rfl 33 (.tmp 12) rfl g o rfl _ _ cR' Try.underlying33 rfl (hsz f0) ?_; go_frame)
  go_loopw [6] (fun i wr => ∃ (k : Nat) (x : L.Fi), 1 ≤ k ∧ k ≤ l.length ∧ i = .int .i64 (k : Int) ∧ Hid (x ∈ l) ∧ Blk wr w.heap.size #[.int .i64 0, .int .i64 0, .int .i64 0, .string ⟨#[]⟩, .string ⟨#[]⟩] 33 ∧ Blk wr (w.heap.size + 1) #[.int .i64 (x.num : Int), .int .i64 (x.lev : Int), .int .i64 (x.size : Int), .string ⟨x.first.toArray⟩, .string ⟨x.last.toArray⟩] 33 ∧ Below w.heap.size w wr) (fun i _ => l.length - (intOf i).toNat)
  case atStart => exact ⟨1, f0, Nat.le_refl _, by omega, rfl, hmem0, R0, X0, hB0⟩
  case round =>
    clear R0 X0 hB0 cR' bg hmem0 d0
    obtain ⟨k, x, hk1, hk, rfl, hx, R0, X0, hB⟩ := hrel
    have q0 : (0 : Int) ≤ (k : Int) := by omega
    by_cases hm : k < l.length
    · have d1 : decide ((k : Int) < (l.length : Int)) = true := decide_eq_true (by omega)
      have d1' : decide (k < l.length) = true := decide_eq_true hm
      have q1 : (k : Int) < (l.length : Int) := by omega
      have hw1 : IntKind.i64.wrap ((k : Int) + 1) = ((k + 1 : Nat) : Int) := by rw [IntWalk.i64_in _ (by omega)]; omega
      obtain ⟨y, hy⟩ : ∃ f, l[k]? = some f := ⟨_, List.getElem?_eq_getElem hm⟩
      obtain ⟨g2, o2, e2, hg2, cY⟩ := fread_at (h.at_ hB) hy
      injection e2 with e2
      injection e2 with e2 e3 _
      subst e2 e3
      have hmy := Lib.hid (List.mem_of_getElem? hy)
      clear hy h
      go_wp2
      apply wp_region_rel_below [[(1, none)], [(0, none)], [(6, none)], [(21, some 1), (22, some 2)], [(23, some 3)], [(5, none)], [(20, some 0), (24, some 4), (25, some 5)], [(26, some 6)]] [eqv _, eqv _, eqv _, eqv _, eqv _, eqv _, eqv _, eqv _] (by kernel_rfl) (by kernel_rfl)
      case hobs =>
        refine ⟨?_, ?_⟩
        · rintro L a1 w1 hT - - ⟨h1, -⟩   -- 0: Op.move t1
          have e1 : a1.tmps.getD 1 undef = _ := h1
          have f1 := getD_form e1
          clear h1
          go_simp; exact left_intro rfl (Stp.refl _) trivial
        refine ⟨?_, ?_⟩
        · rintro L a1 w1 hT - - ⟨h0, -⟩   -- 1: Op.move t0
          have e0 : a1.tmps.getD 0 undef = _ := h0
          have f0 := getD_form e0
          clear h0
          go_simp; exact left_intro rfl (Stp.refl _) trivial
        refine ⟨?_, ?_⟩
        · rintro L a1 w1 hT - - ⟨h6, -⟩   -- 2: Op.move t6
          have e6 : a1.tmps.getD 6 undef = _ := h6
          have f6 := getD_form e6
          clear h6
          go_simp; exact left_intro rfl (Stp.refl _) trivial
        refine ⟨?_, ?_⟩
        · rintro L a1 w1 hT - - ⟨h21, h22, -⟩   -- 3: Op.indexAddr 27 t21 t22
          have e21 : a1.tmps.getD 21 undef = _ := h21
          have f21 := getD_form e21
          have e22 : a1.tmps.getD 22 undef = _ := h22
          have f22 := getD_form e22
          clear h21 h22
          go_simp; exact left_intro rfl (Stp.refl _) trivial
        refine ⟨?_, ?_⟩
        · rintro L a1 w1 hT - - ⟨h23, -⟩   -- 4: Op.load 33 t23
          have e23 : a1.tmps.getD 23 undef = _ := h23
          have f23 := getD_form e23
          clear h23
          exact wp_load_mid 33 (.tmp 23) rfl g (o + k * 5) e23 _ _ (range_below hT hg2 cY) Try.underlying33 rfl size_fi (left_intro (T := Stp) (Ph := fun _ _ _ => True) rfl (Stp.refl _) trivial)
        refine ⟨?_, ?_⟩
        · rintro L a1 w1 hT - - ⟨h5, -⟩   -- 5: Op.load 33 t5
          have e5 : a1.tmps.getD 5 undef = _ := h5
          have f5 := getD_form e5
          clear h5
          obtain ⟨⟨y0, y1, y2, y3, y4⟩, -⟩ := free5 (X0.drew.at_ hT); go_simp; exact left_intro rfl (Stp.refl _) trivial
        refine ⟨?_, ?_⟩
        · rintro L a1 w1 hT - - ⟨h20, h24, h25, -⟩   -- 6: Op.call { value t20, args := #[t24, t25], argTypes := #[33, 33] }
          have e20 : a1.tmps.getD 20 undef = _ := h20
          have f20 := getD_form e20
          have e24 : a1.tmps.getD 24 undef = _ := h24
          have f24 := getD_form e24
          have e25 : a1.tmps.getD 25 undef = _ := h25
          have f25 := getD_form e25
          clear h20 h24 h25
          go_simp; go_at_call 22; (refine (OC.out y x _).mono ?_); rintro e w2 ⟨rfl, hb9⟩; exact left_intro rfl (Stp.of hb9) trivial
        refine ⟨?_, ?_⟩
        · rintro L a1 w1 hT - - ⟨h26, -⟩   -- 7: Op.binOp BinOp.lss 3 t26 (const (0:i64)) 3
          have e26 : a1.tmps.getD 26 undef = _ := h26
          have f26 := getD_form e26
          clear h26
          go_simp; exact left_intro rfl (Stp.refl _) trivial
        trivial
      case hmono => repeat (first | exact trivial | refine ⟨fun _ _ _ _ h => h, ?_⟩)
      case hend =>
        intro w2 hT
        rintro _ rfl _ rfl _ rfl _ rfl _ rfl _ rfl _ rfl _ rfl
        simp only [relEnd, Act.put, List.setIfInBounds_toArray, List.set_cons_succ, List.set_cons_zero]
        have hB2 := hB.trans (hT.mono hB.size)
        have R2 := R0.at_ hT
        have X2 := X0.at_ hT
        have cY2 : w2.rangeAt g (o + k * 5) [.int .i64 (y.num : Int), .int .i64 (y.lev : Int), .int .i64 (y.size : Int), .string ⟨y.first.toArray⟩, .string ⟨y.last.toArray⟩] := range_below hT hg2 cY
        obtain ⟨⟨y0, y1, y2, y3, y4⟩, z0, z1, z2, z3, z4⟩ := free5 X2
        clear hT R0 X0 hB cY hg2
        generalize hbb : decide (L.cmpN y.num x.num < 0) = bb
        clear hbb
        cases bb with
        | true =>
          have B3f := (((((X2.set_ 0 (.int .i64 (y.num : Int))).set_ 1 (.int .i64 (y.lev : Int))).set_ 2 (.int .i64 (y.size : Int))).set_ 3 (.string ⟨y.first.toArray⟩)).set_ 4 (.string ⟨y.last.toArray⟩))
          have o1 := ((((Only.setCell w2 (w.heap.size + 1) 0 (.int .i64 (y.num : Int))).trans (Only.setCell _ (w.heap.size + 1) 1 (.int .i64 (y.lev : Int)))).trans (Only.setCell _ (w.heap.size + 1) 2 (.int .i64 (y.size : Int)))).trans (Only.setCell _ (w.heap.size + 1) 3 (.string ⟨y.first.toArray⟩))).trans (Only.setCell _ (w.heap.size + 1) 4 (.string ⟨y.last.toArray⟩))
          have R3 := R2.only o1 (by omega)
          have hB3 := o1.below hB2 (by omega)
          have c0 : w2.cell? ⟨g, o + k * 5, none⟩ = some (.int .i64 (y.num : Int)) := cY2 0 _ rfl
          have c1 : w2.cell? ⟨g, o + k * 5 + 1, none⟩ = some (.int .i64 (y.lev : Int)) := cY2 1 _ rfl
          have c2 : w2.cell? ⟨g, o + k * 5 + 2, none⟩ = some (.int .i64 (y.size : Int)) := cY2 2 _ rfl
          have c3 : w2.cell? ⟨g, o + k * 5 + 3, none⟩ = some (.string ⟨y.first.toArray⟩) := cY2 3 _ rfl
          have c4 : w2.cell? ⟨g, o + k * 5 + 4, none⟩ = some (.string ⟨y.last.toArray⟩) := cY2 4 _ rfl
          clear cY2
          go_wp2
          go_roundw
          case rel => exact ⟨k + 1, y, by omega, by omega, rfl, hmy, R3, B3f, hB3⟩
          case measure => simp [intOf]; omega
        | false =>
          go_wp2
          go_roundw
          case rel => exact ⟨k + 1, x, by omega, by omega, rfl, hx, R2, X2, hB2⟩
          case measure => simp [intOf]; omega
    · have d1 : decide ((k : Int) < (l.length : Int)) = false := decide_eq_false (by omega)
      have d1' : decide (k < l.length) = false := decide_eq_false hm
      obtain ⟨⟨x0, x1, x2, x3, x4⟩, -⟩ := free5 X0
      obtain ⟨⟨r0, r1, r2, r3, r4⟩, z0, z1, z2, z3, z4⟩ := free5 R0
      go_wp2
      have b1 := ((((R0.set_ 0 (.int .i64 (x.num : Int))).set_ 1 (.int .i64 (x.lev : Int))).set_ 2 (.int .i64 (x.size : Int))).set_ 3 (.string ⟨x.first.toArray⟩)).set_ 4 (.string ⟨x.last.toArray⟩)
      have o1 := ((((Only.setCell wr w.heap.size 0 (.int .i64 (x.num : Int))).trans (Only.setCell _ w.heap.size 1 (.int .i64 (x.lev : Int)))).trans (Only.setCell _ w.heap.size 2 (.int .i64 (x.size : Int)))).trans (Only.setCell _ w.heap.size 3 (.string ⟨x.first.toArray⟩))).trans (Only.setCell _ w.heap.size 4 (.string ⟨x.last.toArray⟩))
      exact bodyPost_ret (v := fiV x) (results_blk (by rfl) _ b1 _ (by rfl) Try.underlying33 (by rfl) size_fi) rfl ⟨x, hx.out, rfl, o1.below hB (Nat.le_refl _)⟩
end Go.Proofs.Ytnfabofkfnmplaa
