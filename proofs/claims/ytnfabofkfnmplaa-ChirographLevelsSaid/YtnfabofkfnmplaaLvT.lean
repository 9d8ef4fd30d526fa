/- The walks of the sort by insertion: insertionSortCmpFunc, stableCmpFunc, SortStableFunc (at most 20 files, by level.order). -/
import Derived.Test.YtnfabofkfnmplaaLvC
import Derived.Shelf.GgClosure.Gives
import Derived.RegionTactic
import Derived.ChangeAlike
import Derived.BigRegion
import Derived.Deep.Cut
namespace Go.Proofs.Ytnfabofkfnmplaa
open Go.RowKit

theorem grown_trans {a b c : World} {row : Option Nat} (h : a.grownBy b row) (k : b.grownBy c row) : a.grownBy c row :=
  ⟨k.os.trans h.os, k.tape.trans h.tape, k.output.trans h.output, Nat.le_trans h.size k.size, fun i hi hr => (k.block i (Nat.lt_of_lt_of_le hi h.size) hr).trans (h.block i hi hr)⟩
theorem grown_below {b c : World} {row : Option Nat} (h : Below b.heap.size b c) : b.grownBy c row := ⟨h.os, h.tape, h.output, h.size, fun i hi _ => h.block i hi⟩
theorem grown_drew {a b : World} {row : Option Nat} (h : a.grownBy b row) : a.grownBy b.drew row := ⟨h.os, h.tape, h.output, h.size, h.block⟩
theorem grown_drewN {a b : World} {row : Option Nat} (h : a.grownBy b row) (n : Nat) : a.grownBy (b.drewN n) row := ⟨h.os, h.tape, h.output, h.size, h.block⟩
theorem frow_drew {w : World} {v : Value} {l : List L.Fi} (h : FRow w v l) : FRow w.drew v l := h
theorem grown_only {b c : World} {g : Nat} (h : Only g b c) : b.grownBy c (some g) := ⟨h.os, h.tape, h.output, Nat.le_of_eq h.size.symm, fun i _ hr => h.block i (fun e => hr (by rw [e]))⟩
theorem frow_get {w : World} {g n c : Nat} {l : List L.Fi} (h : FRow w (.slice (some ⟨g, 0, none⟩) n c) l) {k : Nat} {f : L.Fi} (hk : l[k]? = some f) : w.rangeAt g (k * 5) (fiC f) := RowN.get h rfl (by rw [List.getElem?_map, hk]; rfl)
theorem frow_cells {w : World} {g n c : Nat} {l : List L.Fi} (h : FRow w (.slice (some ⟨g, 0, none⟩) n c) l) {k : Nat} {f : L.Fi} (hk : l[k]? = some f) :
    (w.cell? ⟨g, k * 5, none⟩ = some (.int .i64 (f.num : Int)) ∧ w.cell? ⟨g, k * 5 + 1, none⟩ = some (.int .i64 (f.lev : Int)) ∧ w.cell? ⟨g, k * 5 + 2, none⟩ = some (.int .i64 (f.size : Int)) ∧ w.cell? ⟨g, k * 5 + 3, none⟩ = some (.string ⟨f.first.toArray⟩) ∧ w.cell? ⟨g, k * 5 + 4, none⟩ = some (.string ⟨f.last.toArray⟩)) ∧
    (w.frozen? ⟨g, k * 5, none⟩ = false ∧ w.frozen? ⟨g, k * 5 + 1, none⟩ = false ∧ w.frozen? ⟨g, k * 5 + 2, none⟩ = false ∧ w.frozen? ⟨g, k * 5 + 3, none⟩ = false ∧ w.frozen? ⟨g, k * 5 + 4, none⟩ = false) := by
  have r := frow_get h hk
  exact ⟨⟨r 0 _ rfl, r 1 _ rfl, r 2 _ rfl, r 3 _ rfl, r 4 _ rfl⟩, ⟨RowN.freeR h _, RowN.freeR h _, RowN.freeR h _, RowN.freeR h _, RowN.freeR h _⟩⟩
/-- An element of such a row is another one. -/
theorem frow_set {w : World} {g n c : Nat} {l : List L.Fi} (h : FRow w (.slice (some ⟨g, 0, none⟩) n c) l) {k : Nat} {f : L.Fi} (hk : l[k]? = some f) (x : L.Fi) :
    FRow (((((w.setCell ⟨g, k * 5, none⟩ (.int .i64 (x.num : Int))).setCell ⟨g, k * 5 + 1, none⟩ (.int .i64 (x.lev : Int))).setCell ⟨g, k * 5 + 2, none⟩ (.int .i64 (x.size : Int))).setCell ⟨g, k * 5 + 3, none⟩ (.string ⟨x.first.toArray⟩)).setCell ⟨g, k * 5 + 4, none⟩ (.string ⟨x.last.toArray⟩)) (.slice (some ⟨g, 0, none⟩) n c) (l.set k x) ∧
    Only g w (((((w.setCell ⟨g, k * 5, none⟩ (.int .i64 (x.num : Int))).setCell ⟨g, k * 5 + 1, none⟩ (.int .i64 (x.lev : Int))).setCell ⟨g, k * 5 + 2, none⟩ (.int .i64 (x.size : Int))).setCell ⟨g, k * 5 + 3, none⟩ (.string ⟨x.first.toArray⟩)).setCell ⟨g, k * 5 + 4, none⟩ (.string ⟨x.last.toArray⟩)) := by
  have hkl : k < (l.map fiC).length := by rw [List.length_map]; exact (List.getElem?_eq_some_iff.1 hk).1
  have h0 : (l.map fiC)[k]? = some (fiC f) := by rw [List.getElem?_map, hk]; rfl
  have r0 := RowN.set h h0 (j := 0) (by omega) (.int .i64 (x.num : Int))
  have r1 := RowN.set r0 (List.getElem?_set_self hkl) (j := 1) (by omega) (.int .i64 (x.lev : Int))
  rw [List.set_set] at r1
  have r2 := RowN.set r1 (List.getElem?_set_self hkl) (j := 2) (by omega) (.int .i64 (x.size : Int))
  rw [List.set_set] at r2
  have r3 := RowN.set r2 (List.getElem?_set_self hkl) (j := 3) (by omega) (.string ⟨x.first.toArray⟩)
  rw [List.set_set] at r3
  have r4 := RowN.set r3 (List.getElem?_set_self hkl) (j := 4) (by omega) (.string ⟨x.last.toArray⟩)
  rw [List.set_set] at r4
  refine ⟨?_, ((((Only.setCell w g (k * 5) _).trans (Only.setCell _ g (k * 5 + 1) _)).trans (Only.setCell _ g (k * 5 + 2) _)).trans (Only.setCell _ g (k * 5 + 3) _)).trans (Only.setCell _ g (k * 5 + 4) _)⟩
  unfold FRow
  rw [List.map_set]
  exact r4
theorem frow_form {w : World} {v : Value} {l : List L.Fi} (h : FRow w v l) (h0 : l ≠ []) : ∃ g n c, v = .slice (some ⟨g, 0, none⟩) n c ∧ n = l.length := by
  rcases RowN.form h with ⟨_, e⟩ | ⟨g, cap, e, _⟩
  · exact absurd (List.map_eq_nil_iff.1 e) h0
  · exact ⟨g, _, cap, e, List.length_map _⟩
namespace L
theorem bub_len : ∀ (n : Nat) (l : List Fi), (bub n l).length = l.length
  | 0, _ => rfl
  | n + 1, l => by
    unfold bub
    split
    · split
      · rw [bub_len n, List.length_set, List.length_set]
      · rfl
    · rfl
theorem bub_step {l : List Fi} {j : Nat} {a b : Fi} (ha : l[j]? = some a) (hb : l[j + 1]? = some b) (h : ord b a < 0) : bub (j + 1) l = bub j ((l.set (j + 1) a).set j b) := by
  show (match l[j]?, l[j + 1]? with | some a, some b => if ord b a < 0 then bub j ((l.set (j + 1) a).set j b) else l | _, _ => l) = _
  rw [ha, hb]
  simp only
  rw [if_pos h]
end L
set_option maxRecDepth 100000 in
set_option maxHeartbeats 8000000 in
theorem insertion_any (l : List L.Fi) (v : Value) (w : World) (h : FRow w v l) (hl : l.length ≤ 100) :
    Calls Try.prog 37 #[v, .int .i64 0, .int .i64 (l.length : Int), .func (.func 18) #[] #[]] w fun e w' => e = .returned (.tuple #[]) ∧ FRow w' v (L.isort l) ∧ w.grownBy w' v.ownBlock := by
  have OC := Lib.hid (fun a b W => order_any a b W)
  obtain ⟨N, hN⟩ : ∃ N, N = l.length := ⟨_, rfl⟩
  rw [← hN]
  have hN1 : N ≤ 100 := by omega
  have h1 : l = (List.range 1).foldl (fun l i => L.bub i l) l := rfl
  have hR : L.isort l = (List.range N).foldl (fun l i => L.bub i l) l := by rw [hN]; rfl
  have hRl : (List.range N).foldl (fun l i => L.bub i l) l = l ∨ 1 ≤ N := by
    by_cases e : N = 0
    · left; rw [e]; rfl
    · right; omega
  generalize L.isort l = R at *
  replace hN := Lib.hid hN
  go_enter Try.func37, Try.ntmps37
  go_wp2
  go_loopw [8] (fun i wr => ∃ (k : Nat) (m : List L.Fi), i = .int .i64 (k : Int) ∧ 1 ≤ k ∧ k ≤ N + 1 ∧ Hid (k ≤ N ∨ k = 1) ∧ Hid (m.length = N) ∧ Hid (m = (List.range k).foldl (fun l i => L.bub i l) l) ∧ FRow wr v m ∧ w.grownBy wr v.ownBlock) (fun i _ => N + 1 - (intOf i).toNat)
  case atStart => exact ⟨1, l, rfl, Nat.le_refl _, by omega, Lib.hid (.inr rfl), Lib.hid hN.out.symm, Lib.hid h1, h, World.grownBy.refl _ _⟩
  case round =>
    clear h1
    obtain ⟨k, m, rfl, hk1, hk2, hk3, hm, hmk, hrow, hgr⟩ := hrel
    by_cases hlt : k < N
    · have d1 : decide ((k : Int) < (N : Int)) = true := decide_eq_true (by omega)
      have d1' : decide (k < N) = true := decide_eq_true hlt
      have hw1 : IntKind.i64.wrap ((k : Int) + 1) = ((k + 1 : Nat) : Int) := by rw [IntWalk.i64_in _ (by omega)]; omega
      have hkn := Lib.hid (show k + 1 ≤ N by omega)
      have hmN : m ≠ [] := by intro e; have := hm.out; rw [e] at this; simp at this; omega
      obtain ⟨g, n, c, rfl, hn⟩ := frow_form hrow hmN
      have hnN : n = N := hn.trans hm.out
      clear hn hmN
      subst hnN
      go_wp2
      go_loopw [9] (fun j wq => ∃ (q : Nat) (m' : List L.Fi), j = .int .i64 (q : Int) ∧ q ≤ k ∧ Hid (m'.length = n) ∧ Hid (L.bub k m = L.bub q m') ∧ FRow wq (.slice (some ⟨g, 0, none⟩) n c) m' ∧ w.grownBy wq (some g)) (fun j _ => (intOf j).toNat)
      case atStart => exact ⟨k, m, rfl, Nat.le_refl _, hm, Lib.hid rfl, hrow, hgr⟩
      case round =>
        clear hrow hgr
        obtain ⟨q, m', rfl, hqk, hm', hb, hrow, hgr⟩ := hrel
        have hlen2 : (L.bub k m).length = n := by rw [L.bub_len]; exact hm.out
        have hnext := Lib.hid (show L.bub k m = (List.range (k + 1)).foldl (fun l i => L.bub i l) l by rw [List.range_succ, List.foldl_append, ← hmk.out]; rfl)
        have hlen3 := Lib.hid hlen2
        clear hlen2
        by_cases hq0 : q = 0
        · subst hq0
          have e1 : decide ((0 : Int) < ((0 : Nat) : Int)) = false := rfl
          have hfin := Lib.hid (show L.bub k m = m' from hb.out)
          go_wp2
          go_quiet (fail)
          go_wp2
          go_roundw
          case rel => exact ⟨k + 1, m', rfl, by omega, by have := hkn.out; omega, Lib.hid (.inl hkn.out), hm', Lib.hid (by rw [← hnext.out]; exact hfin.out.symm), RowN.drewN hrow _, grown_drewN hgr _⟩
          case measure => simp [intOf]; have := hkn.out; omega
        · obtain ⟨p, hp⟩ : ∃ p, q = p + 1 := ⟨q - 1, by omega⟩
          have e1 : decide ((0 : Int) < (q : Int)) = true := decide_eq_true (by omega)
          have e1' : decide (0 < q) = true := decide_eq_true (by omega)
          replace hp := Lib.hid hp
          have hwm : IntKind.i64.wrap ((q : Int) - 1) = (p : Int) := by have := hp.out; rw [IntWalk.i64_in _ (by omega)]; omega
          have i0 : (0 : Int) ≤ (q : Int) := by omega
          have i1 : (q : Int) < (n : Int) := by omega
          have j0 : (0 : Int) ≤ (p : Int) := by omega
          have j1 : (p : Int) < (n : Int) := by have := hp.out; omega
          obtain ⟨b, hb1⟩ : ∃ b, m'[q]? = some b := ⟨_, List.getElem?_eq_getElem (by have := hm'.out; omega)⟩
          obtain ⟨a, ha1⟩ : ∃ a, m'[p]? = some a := ⟨_, List.getElem?_eq_getElem (by have := hm'.out; have := hp.out; omega)⟩
          have hrd := RowN.drew hrow
          go_wp2
          apply wp_region_rel_below [[(9, none)], [(1, none)], [(18, some 0), (19, some 1)], [(20, some 2)], [(3, none), (21, some 3)], [(0, none), (21, some 3)], [(9, none), (21, some 3)], [(23, some 5), (24, some 6), (21, some 3)], [(25, some 7), (21, some 3)], [(0, none), (21, some 3)], [(9, none), (21, some 3)], [(28, some 10), (21, some 3)], [(27, some 9), (29, some 11), (21, some 3)], [(30, some 12), (21, some 3)], [(22, some 4), (26, some 8), (31, some 13), (21, some 3)], [(32, some 14), (21, some 3)], [(21, some 3), (33, some 15)]] [eqv _, eqv _, eqv _, eqv _, eqv _, eqv _, eqv _, eqv _, eqv _, eqv _, eqv _, eqv _, eqv _, eqv _, eqv _, eqv _, eqv _] (by kernel_rfl) (by kernel_rfl)
          case hobs =>
            refine ⟨?_, ?_⟩
            · rintro L a1 w1 hT - - ⟨h9, -⟩   -- 0: Op.move t9
              have e9 : a1.tmps.getD 9 undef = _ := h9
              have f9 := getD_form e9
              clear h9
              go_simp; exact left_intro rfl (Stp.refl _) trivial
            refine ⟨?_, ?_⟩
            · rintro L a1 w1 hT - - ⟨h1, -⟩   -- 1: Op.move t1
              have e1 : a1.tmps.getD 1 undef = _ := h1
              have f1 := getD_form e1
              clear h1
              go_simp; exact left_intro rfl (Stp.refl _) trivial
            refine ⟨?_, ?_⟩
            · rintro L a1 w1 hT - - ⟨h18, h19, -⟩   -- 2: Op.binOp BinOp.gtr 3 t18 t19 3
              have e18 : a1.tmps.getD 18 undef = _ := h18
              have f18 := getD_form e18
              have e19 : a1.tmps.getD 19 undef = _ := h19
              have f19 := getD_form e19
              clear h18 h19
              go_simp; exact left_intro rfl (Stp.refl _) trivial
            refine ⟨?_, ?_⟩
            · rintro L a1 w1 hT - - ⟨h20, -⟩   -- 3: Op.move t20
              have e20 : a1.tmps.getD 20 undef = _ := h20
              have f20 := getD_form e20
              clear h20
              go_simp; exact left_intro rfl (Stp.refl _) trivial
            refine ⟨?_, ?_⟩
            · rintro L a1 w1 hT - - ⟨h3, h21, -⟩   -- 4: Op.move t3
              have e3 : a1.tmps.getD 3 undef = _ := h3
              have f3 := getD_form e3
              have e21 : a1.tmps.getD 21 undef = _ := h21
              have f21 := getD_form e21
              clear h3 h21
              refine ⟨true, 21, by rfl, e21, ?_⟩; rw [if_pos rfl]
              go_simp; exact left_intro rfl (Stp.refl _) trivial
            refine ⟨?_, ?_⟩
            · rintro L a1 w1 hT - - ⟨h0, h21, -⟩   -- 5: Op.move t0
              have e0 : a1.tmps.getD 0 undef = _ := h0
              have f0 := getD_form e0
              have e21 : a1.tmps.getD 21 undef = _ := h21
              have f21 := getD_form e21
              clear h0 h21
              refine ⟨true, 21, by rfl, e21, ?_⟩; rw [if_pos rfl]
              go_simp; exact left_intro rfl (Stp.refl _) trivial
            refine ⟨?_, ?_⟩
            · rintro L a1 w1 hT - - ⟨h9, h21, -⟩   -- 6: Op.move t9
              have e9 : a1.tmps.getD 9 undef = _ := h9
              have f9 := getD_form e9
              have e21 : a1.tmps.getD 21 undef = _ := h21
              have f21 := getD_form e21
              clear h9 h21
              refine ⟨true, 21, by rfl, e21, ?_⟩; rw [if_pos rfl]
              go_simp; exact left_intro rfl (Stp.refl _) trivial
            refine ⟨?_, ?_⟩
            · rintro L a1 w1 hT - - ⟨h23, h24, h21, -⟩   -- 7: Op.indexAddr 27 t23 t24
              have e23 : a1.tmps.getD 23 undef = _ := h23
              have f23 := getD_form e23
              have e24 : a1.tmps.getD 24 undef = _ := h24
              have f24 := getD_form e24
              have e21 : a1.tmps.getD 21 undef = _ := h21
              have f21 := getD_form e21
              clear h23 h24 h21
              refine ⟨true, 21, by rfl, e21, ?_⟩; rw [if_pos rfl]
              go_simp; exact left_intro rfl (Stp.refl _) trivial
            refine ⟨?_, ?_⟩
            · rintro L a1 w1 hT - - ⟨h25, h21, -⟩   -- 8: Op.load 33 t25
              have e25 : a1.tmps.getD 25 undef = _ := h25
              have f25 := getD_form e25
              have e21 : a1.tmps.getD 21 undef = _ := h21
              have f21 := getD_form e21
              clear h25 h21
              refine ⟨true, 21, by rfl, e21, ?_⟩; rw [if_pos rfl]
              exact wp_load_mid 33 (.tmp 25) rfl g (q * 5) e25 _ _ (frow_get (FRow.at_ hrd hT) hb1) Try.underlying33 rfl size_fi (left_intro (T := Stp) (Ph := fun _ _ _ => True) rfl (Stp.refl _) trivial)
            refine ⟨?_, ?_⟩
            · rintro L a1 w1 hT - - ⟨h0, h21, -⟩   -- 9: Op.move t0
              have e0 : a1.tmps.getD 0 undef = _ := h0
              have f0 := getD_form e0
              have e21 : a1.tmps.getD 21 undef = _ := h21
              have f21 := getD_form e21
              clear h0 h21
              refine ⟨true, 21, by rfl, e21, ?_⟩; rw [if_pos rfl]
              go_simp; exact left_intro rfl (Stp.refl _) trivial
            refine ⟨?_, ?_⟩
            · rintro L a1 w1 hT - - ⟨h9, h21, -⟩   -- 10: Op.move t9
              have e9 : a1.tmps.getD 9 undef = _ := h9
              have f9 := getD_form e9
              have e21 : a1.tmps.getD 21 undef = _ := h21
              have f21 := getD_form e21
              clear h9 h21
              refine ⟨true, 21, by rfl, e21, ?_⟩; rw [if_pos rfl]
              go_simp; exact left_intro rfl (Stp.refl _) trivial
            refine ⟨?_, ?_⟩
            · rintro L a1 w1 hT - - ⟨h28, h21, -⟩   -- 11: Op.binOp BinOp.sub 3 t28 (const (1:i64)) 3
              have e28 : a1.tmps.getD 28 undef = _ := h28
              have f28 := getD_form e28
              have e21 : a1.tmps.getD 21 undef = _ := h21
              have f21 := getD_form e21
              clear h28 h21
              refine ⟨true, 21, by rfl, e21, ?_⟩; rw [if_pos rfl]
              go_simp; exact left_intro rfl (Stp.refl _) trivial
            refine ⟨?_, ?_⟩
            · rintro L a1 w1 hT - - ⟨h27, h29, h21, -⟩   -- 12: Op.indexAddr 27 t27 t29
              have e27 : a1.tmps.getD 27 undef = _ := h27
              have f27 := getD_form e27
              have e29 : a1.tmps.getD 29 undef = _ := h29
              have f29 := getD_form e29
              have e21 : a1.tmps.getD 21 undef = _ := h21
              have f21 := getD_form e21
              clear h27 h29 h21
              refine ⟨true, 21, by rfl, e21, ?_⟩; rw [if_pos rfl]
              go_simp; exact left_intro rfl (Stp.refl _) trivial
            refine ⟨?_, ?_⟩
            · rintro L a1 w1 hT - - ⟨h30, h21, -⟩   -- 13: Op.load 33 t30
              have e30 : a1.tmps.getD 30 undef = _ := h30
              have f30 := getD_form e30
              have e21 : a1.tmps.getD 21 undef = _ := h21
              have f21 := getD_form e21
              clear h30 h21
              refine ⟨true, 21, by rfl, e21, ?_⟩; rw [if_pos rfl]
              exact wp_load_mid 33 (.tmp 30) rfl g (p * 5) e30 _ _ (frow_get (FRow.at_ hrd hT) ha1) Try.underlying33 rfl size_fi (left_intro (T := Stp) (Ph := fun _ _ _ => True) rfl (Stp.refl _) trivial)
            refine ⟨?_, ?_⟩
            · rintro L a1 w1 hT - - ⟨h22, h26, h31, h21, -⟩   -- 14: Op.call { value t22, args := #[t26, t31], argTypes := #[33, 33] }
              have e22 : a1.tmps.getD 22 undef = _ := h22
              have f22 := getD_form e22
              have e26 : a1.tmps.getD 26 undef = _ := h26
              have f26 := getD_form e26
              have e31 : a1.tmps.getD 31 undef = _ := h31
              have f31 := getD_form e31
              have e21 : a1.tmps.getD 21 undef = _ := h21
              have f21 := getD_form e21
              clear h22 h26 h31 h21
              refine ⟨true, 21, by rfl, e21, ?_⟩; rw [if_pos rfl]
              go_simp; go_at_call 18; (refine (OC.out b a _).mono ?_); rintro e w2 ⟨rfl, hb9⟩; exact left_intro rfl (Stp.of hb9) trivial
            refine ⟨?_, ?_⟩
            · rintro L a1 w1 hT - - ⟨h32, h21, -⟩   -- 15: Op.binOp BinOp.lss 3 t32 (const (0:i64)) 3
              have e32 : a1.tmps.getD 32 undef = _ := h32
              have f32 := getD_form e32
              have e21 : a1.tmps.getD 21 undef = _ := h21
              have f21 := getD_form e21
              clear h32 h21
              refine ⟨true, 21, by rfl, e21, ?_⟩; rw [if_pos rfl]
              go_simp; exact left_intro rfl (Stp.refl _) trivial
            refine ⟨?_, ?_⟩
            · rintro L a1 w1 hT - - ⟨h21, h33, -⟩   -- 16: Op.pick t21 t33 (const (Value.bool false))
              have e21 : a1.tmps.getD 21 undef = _ := h21
              have f21 := getD_form e21
              have e33 : a1.tmps.getD 33 undef = _ := h33
              have f33 := getD_form e33
              clear h21 h33
              go_simp; exact left_intro rfl (Stp.refl _) trivial
            trivial
          case hmono => repeat (first | exact trivial | refine ⟨fun _ _ _ _ h => h, ?_⟩)
          case hend =>
            intro w2 hT
            rintro _ rfl _ rfl _ rfl _ rfl _ rfl _ rfl _ rfl _ rfl _ rfl _ rfl _ rfl _ rfl _ rfl _ rfl _ rfl _ rfl _ rfl
            simp only [relEnd, Act.put, List.setIfInBounds_toArray, List.set_cons_succ, List.set_cons_zero]
            have hrow2 := FRow.at_ hrow hT
            have hgr2 := grown_trans hgr (grown_below hT)
            clear hT hrow hrd hgr
            generalize hbb : decide (L.ord b a < 0) = bb
            cases bb with
            | true =>
              have ho := of_decide_eq_true hbb
              have hst := Lib.hid (show L.bub k m = L.bub p ((m'.set q a).set p b) by rw [hb.out, hp.out]; exact L.bub_step ha1 (by rw [← hp.out]; exact hb1) ho)
              obtain ⟨⟨x0, x1, x2, x3, x4⟩, y0, y1, y2, y3, y4⟩ := frow_cells hrow2 hb1
              obtain ⟨⟨z0, z1, z2, z3, z4⟩, t0, t1, t2, t3, t4⟩ := frow_cells hrow2 ha1
              obtain ⟨r5, o5⟩ := frow_set hrow2 hb1 a
              obtain ⟨r6, o6⟩ := frow_set r5 (k := p) (f := a) (by rw [List.getElem?_set_ne (by have := hp.out; omega)]; exact ha1) b
              have hgr3 := grown_trans (grown_trans hgr2 (grown_only o5)) (grown_only o6)
              replace r6 := Lib.hid (frow_drew r6)
              replace hgr3 := Lib.hid (grown_drew hgr3)
              clear ho hbb r5 o5 o6 hgr2 hrow2
              have n00 : ¬ p * 5 = q * 5 := by have := hp.out; omega
              have m00 : ¬ q * 5 = p * 5 := by have := hp.out; omega
              have n01 : ¬ p * 5 = q * 5 + 1 := by have := hp.out; omega
              have m01 : ¬ q * 5 + 1 = p * 5 := by have := hp.out; omega
              have n02 : ¬ p * 5 = q * 5 + 2 := by have := hp.out; omega
              have m02 : ¬ q * 5 + 2 = p * 5 := by have := hp.out; omega
              have n03 : ¬ p * 5 = q * 5 + 3 := by have := hp.out; omega
              have m03 : ¬ q * 5 + 3 = p * 5 := by have := hp.out; omega
              have n04 : ¬ p * 5 = q * 5 + 4 := by have := hp.out; omega
              have m04 : ¬ q * 5 + 4 = p * 5 := by have := hp.out; omega
              have n10 : ¬ p * 5 + 1 = q * 5 := by have := hp.out; omega
              have m10 : ¬ q * 5 = p * 5 + 1 := by have := hp.out; omega
              have n11 : ¬ p * 5 + 1 = q * 5 + 1 := by have := hp.out; omega
              have m11 : ¬ q * 5 + 1 = p * 5 + 1 := by have := hp.out; omega
              have n12 : ¬ p * 5 + 1 = q * 5 + 2 := by have := hp.out; omega
              have m12 : ¬ q * 5 + 2 = p * 5 + 1 := by have := hp.out; omega
              have n13 : ¬ p * 5 + 1 = q * 5 + 3 := by have := hp.out; omega
              have m13 : ¬ q * 5 + 3 = p * 5 + 1 := by have := hp.out; omega
              have n14 : ¬ p * 5 + 1 = q * 5 + 4 := by have := hp.out; omega
              have m14 : ¬ q * 5 + 4 = p * 5 + 1 := by have := hp.out; omega
              have n20 : ¬ p * 5 + 2 = q * 5 := by have := hp.out; omega
              have m20 : ¬ q * 5 = p * 5 + 2 := by have := hp.out; omega
              have n21 : ¬ p * 5 + 2 = q * 5 + 1 := by have := hp.out; omega
              have m21 : ¬ q * 5 + 1 = p * 5 + 2 := by have := hp.out; omega
              have n22 : ¬ p * 5 + 2 = q * 5 + 2 := by have := hp.out; omega
              have m22 : ¬ q * 5 + 2 = p * 5 + 2 := by have := hp.out; omega
              have n23 : ¬ p * 5 + 2 = q * 5 + 3 := by have := hp.out; omega
              have m23 : ¬ q * 5 + 3 = p * 5 + 2 := by have := hp.out; omega
              have n24 : ¬ p * 5 + 2 = q * 5 + 4 := by have := hp.out; omega
              have m24 : ¬ q * 5 + 4 = p * 5 + 2 := by have := hp.out; omega
              have n30 : ¬ p * 5 + 3 = q * 5 := by have := hp.out; omega
              have m30 : ¬ q * 5 = p * 5 + 3 := by have := hp.out; omega
              have n31 : ¬ p * 5 + 3 = q * 5 + 1 := by have := hp.out; omega
              have m31 : ¬ q * 5 + 1 = p * 5 + 3 := by have := hp.out; omega
              have n32 : ¬ p * 5 + 3 = q * 5 + 2 := by have := hp.out; omega
              have m32 : ¬ q * 5 + 2 = p * 5 + 3 := by have := hp.out; omega
              have n33 : ¬ p * 5 + 3 = q * 5 + 3 := by have := hp.out; omega
              have m33 : ¬ q * 5 + 3 = p * 5 + 3 := by have := hp.out; omega
              have n34 : ¬ p * 5 + 3 = q * 5 + 4 := by have := hp.out; omega
              have m34 : ¬ q * 5 + 4 = p * 5 + 3 := by have := hp.out; omega
              have n40 : ¬ p * 5 + 4 = q * 5 := by have := hp.out; omega
              have m40 : ¬ q * 5 = p * 5 + 4 := by have := hp.out; omega
              have n41 : ¬ p * 5 + 4 = q * 5 + 1 := by have := hp.out; omega
              have m41 : ¬ q * 5 + 1 = p * 5 + 4 := by have := hp.out; omega
              have n42 : ¬ p * 5 + 4 = q * 5 + 2 := by have := hp.out; omega
              have m42 : ¬ q * 5 + 2 = p * 5 + 4 := by have := hp.out; omega
              have n43 : ¬ p * 5 + 4 = q * 5 + 3 := by have := hp.out; omega
              have m43 : ¬ q * 5 + 3 = p * 5 + 4 := by have := hp.out; omega
              have n44 : ¬ p * 5 + 4 = q * 5 + 4 := by have := hp.out; omega
              have m44 : ¬ q * 5 + 4 = p * 5 + 4 := by have := hp.out; omega
              go_wp2
              go_region
              go_wp2
              go_roundw
              case rel => exact ⟨p, (m'.set q a).set p b, rfl, by have := hp.out; omega, Lib.hid (by rw [List.length_set, List.length_set]; exact hm'.out), hst, r6.out, hgr3.out⟩
              case measure => simp [intOf]; have := hp.out; omega
            | false =>
              have ho := of_decide_eq_false hbb
              have hst := Lib.hid (show L.bub k m = m' by rw [hb.out, hp.out]; exact L.bub_stay ha1 (by rw [← hp.out]; exact hb1) ho)
              clear ho hbb
              go_wp2
              go_roundw
              case rel => exact ⟨k + 1, m', rfl, by omega, by have := hkn.out; omega, Lib.hid (.inl hkn.out), hm', Lib.hid (by rw [← hnext.out]; exact hst.out.symm), hrow2, hgr2⟩
              case measure => simp [intOf]; have := hkn.out; omega
    · have d1 : decide ((k : Int) < (N : Int)) = false := decide_eq_false (by omega)
      have d1' : decide (k < N) = false := decide_eq_false hlt
      have hend : R = m := by
        rw [hR, hmk.out]
        rcases hk3.out with e | e
        · rw [show k = N by omega]
        · rcases hRl with e2 | e2
          · rw [e, e2]; rfl
          · rw [show k = N by omega]
      have Hend := Lib.hid hend
      clear hend
      go_wp2
      go_end0
      exact ⟨rfl, by rw [Hend.out]; exact hrow, hgr⟩
end Go.Proofs.Ytnfabofkfnmplaa
