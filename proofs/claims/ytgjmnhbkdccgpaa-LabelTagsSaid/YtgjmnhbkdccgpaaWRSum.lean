/- The walk of the document's own sum. -/
import Derived.Test.YtgjmnhbkdccgpaaWRWords
namespace Go.Proofs.Ytgjmnhbkdccgpaa
open Go.RowKit

theorem zero_lab (w : World) : (Instr.build 25 #[]).run Try.prog w = .ok (.agg (labA zlab)) w := by kernel_rfl
theorem uw_inv (x : BitVec 32) : (4294967295 : Int) - uw x = uw (~~~x) := by
  have := x.isLt
  unfold uw; rw [BitVec.toNat_not]; omega
theorem uw_inv2 (x : BitVec 32) : IntKind.u32.wrap ((4294967295 : Int) - uw x) = uw (~~~x) := by
  rw [uw_inv, IntKind.wrap_u32]; have := uw_bd (~~~x); omega
theorem uw_inv3 (x : BitVec 32) : ((4294967295 : Int) - uw x) % (4294967296 : Int) = uw (~~~x) := by
  rw [uw_inv]; have := uw_bd (~~~x); omega
theorem uw_mod (x : BitVec 32) : uw x % (4294967296 : Int) = uw x := by have := uw_bd x; omega
attribute [go_sem] uw_inv uw_inv2 uw_inv3 uw_mod
theorem ch_or (e f g : BitVec 32) : (e &&& f) ||| (~~~e &&& g) = S.ch e f g := by
  apply BitVec.eq_of_getLsbD_eq
  intro i hi
  simp only [S.ch, BitVec.getLsbD_or, BitVec.getLsbD_and, BitVec.getLsbD_xor, BitVec.getLsbD_not]
  cases e.getLsbD i <;> cases f.getLsbD i <;> cases g.getLsbD i <;> simp
theorem maj_or (a b c : BitVec 32) : ((a &&& b) ||| (a &&& c)) ||| (b &&& c) = S.maj a b c := by
  apply BitVec.eq_of_getLsbD_eq
  intro i hi
  simp only [S.maj, BitVec.getLsbD_or, BitVec.getLsbD_and, BitVec.getLsbD_xor]
  cases a.getLsbD i <;> cases b.getLsbD i <;> cases c.getLsbD i <;> rfl
theorem build_r8 (a b c d e f g h : BitVec 32) (w : World) : (Instr.build 32 #[(0, .int .u32 (uw a)), (1, .int .u32 (uw b)), (2, .int .u32 (uw c)), (3, .int .u32 (uw d)), (4, .int .u32 (uw e)), (5, .int .u32 (uw f)), (6, .int .u32 (uw g)), (7, .int .u32 (uw h))]).run Try.prog w = .ok (.agg (wsA [a, b, c, d, e, f, g, h])) w := by kernel_rfl
theorem sl_mid (A : Addr) (n c i k : Nat) (x y : Int) (hx : x = (i : Int)) (hy : y = (k : Int)) (h1 : i < k) (hk : k ≤ c) (w : World) : (Instr.slice 36 (.slice (some A) n c) (some (.int .i64 x)) (some (.int .i64 y)) none).run Try.prog w = .ok (.slice (some (A.add i)) (k - i) (c - i)) w := by
  subst hx hy
  have hs : ∀ w, (Go.sizeOf (Try.prog.elem 36)).run Try.prog w = .ok 1 w := fun w => by kernel_rfl
  rw [run_slice_lh w 36 (some A) n c (by kernel_rfl) .i64 .i64 (i : Int) (k : Int) (by omega) (by omega) (by omega), hs]
  simp only [Result.andThen_ok, sliced, Int.toNat_natCast, Nat.mul_one]
  rw [if_neg (by omega)]; rfl
/-- What the walk keeps from block to block. -/
structure Rsm (w wr : World) (gh gk g L : Nat) (P : List UInt8) (V : S.V8) : Prop where
  out : Blk wr w.heap.size (labA zlab) 25
  hs : Blk wr gh (wsA V.list) 32
  ks : Blk wr gk (wsA S.steps) 34
  cs : ∀ j, j < L → wr.cell? ⟨g, j, none⟩ = some (.int .u8 ((P.getD j 0).toNat : Int))
  bel : Below w.heap.size w wr
  lh : w.heap.size < gh
  lg : g < wr.heap.size
  nk : gk ≠ gh
  ng : g ≠ gh
section
variable {w wr : World} {gh gk g L : Nat} {P : List UInt8} {V : S.V8}
theorem Rsm.at_ {w' : World} (h : Rsm w wr gh gk g L P V) (hb : Below wr.heap.size wr w') : Rsm w w' gh gk g L P V :=
  ⟨h.out.at_ hb, h.hs.at_ hb, h.ks.at_ hb, fun j hj => (hb.cell (p := ⟨g, j, none⟩) h.lg).trans (h.cs j hj), h.bel.trans (hb.mono h.bel.size), h.lh, Nat.lt_of_lt_of_le h.lg hb.size, h.nk, h.ng⟩
theorem Rsm.grown {w' : World} {U : S.V8} (h : Rsm w wr gh gk g L P V) (hs : Blk w' gh (wsA U.list) 32) (hg : wr.grownBy w' (some gh)) : Rsm w w' gh gk g L P U :=
  ⟨h.out.grown hg (by have := h.lh; intro e; injection e with e; omega), hs, h.ks.grown hg (by have := h.nk; intro e; injection e with e; omega), fun j hj => (cell_grown hg h.lg (by have := h.ng; intro e; injection e with e; omega) j).trans (h.cs j hj),
   below_grown h.bel h.bel.size hg (fun k e => by have := h.lh; injection e with e; omega), h.lh, Nat.lt_of_lt_of_le h.lg hg.size, h.nk, h.ng⟩
end
set_option maxRecDepth 100000 in
set_option maxHeartbeats 4000000 in
theorem rsum_any (l : List UInt8) (w : World) (hl : l.length ≤ 140737488355000) :
    Calls Try.prog 21 #[.string ⟨l.toArray⟩] w fun e w' => e = .returned (.agg (labA (S.sum l))) ∧ Below w.heap.size w w' := by
  have hPl := S.padded_length l
  have hPm := S.padded_mod l
  have hnl := S.noughts_lt l.length
  have HS := Lib.hid (S.sum_to l)
  have hpad := fun w' => rpadded_any l w' hl
  have hLb : (S.padded l).length ≤ 140737488355328 := by omega
  generalize S.padded l = P at *
  obtain ⟨L, hL⟩ : ∃ L, L = P.length := ⟨_, rfl⟩
  rw [← hL] at hPm hLb HS hPl
  have HL := Lib.hid hL
  clear hL hPl hnl
  have b0 := Blk.new w (labA zlab) 25
  have h0 := below_alloc1 w (.cells (labA zlab) 25)
  go_enter Try.func21, Try.ntmps21
  go_wp2_with (first | (refine wpList_fresh (by rfl) 25 (by rfl) _ fresh_lab ?_; simp only [Act.put, List.setIfInBounds_toArray, List.set_cons_succ, List.set_cons_zero]; try simp only [World.size_alloc]) | (go_at_call 23; with_reducible refine (rbegin_any _).mono ?_; rintro e w1 ⟨rfl, hb1⟩) | (go_at_call 24; with_reducible refine (rsteps_any _).mono ?_; rintro e w2 ⟨rfl, hb2⟩) | (refine wpList_fresh (by rfl) 32 (by rfl) _ fresh_r8 ?_; simp only [Act.put, List.setIfInBounds_toArray, List.set_cons_succ, List.set_cons_zero]; try simp only [World.size_alloc]) | (refine wpList_fresh (by rfl) 34 (by rfl) _ fresh_w64 ?_; simp only [Act.put, List.setIfInBounds_toArray, List.set_cons_succ, List.set_cons_zero]; try simp only [World.size_alloc]) | ((refine wpList_store_blk (by rfl) 32 (.tmp 3) (.tmp 18) (by rfl) (0) (wsA S.begin.list) (by rfl) (by rfl) (((Blk.new _ _ _).alloc _)) ((by rw [wsA_size, wsA_size]; decide)) (size_r8 S.begin.list rfl) (wsA_all _) ?_; simp only [Act.put]); intro w3 bh o3) | ((refine wpList_store_blk (by rfl) 34 (.tmp 4) (.tmp 19) (by rfl) (0) (wsA S.steps) (by rfl) (by rfl) (((blk_new1 _ _ _ _).only o3 (by omega))) ((by rw [wsA_size, wsA_size]; decide)) (size_w64 S.steps rfl) (wsA_all _) ?_; simp only [Act.put]); intro w4 bk o4) | (go_at_call 60; with_reducible refine (hpad _).mono ?_; rintro e w5 ⟨v5, rfl, hB, hb5⟩))
  rw [splice_all _ _ (by rw [wsA_size, wsA_size]; decide)] at bh bk
  obtain ⟨g, cap, rfl, hg1, hg2, hle, hc⟩ := hB.cell
  have z1 := hb1.size
  rw [World.size_alloc] at z1
  have z2 := hb2.size
  have z4 : w4.heap.size = w2.heap.size + 2 := by rw [o4.size, o3.size]; simp
  have hM : S.begin = S.mixTo P 0 := rfl
  have M : Rsm w w5 w2.heap.size (w2.heap.size + 1) g L P (S.mixTo P 0) := by
    rw [← hM]
    rw [← HL.out] at hc
    have e2 : Below w.heap.size w w2 := (h0.trans (hb1.mono (by simp))).trans (hb2.mono (by omega))
    exact ⟨(((((((b0.at_ hb1).at_ hb2).alloc _).alloc _).only o3 (by omega)).only o4 (by omega)).at_ hb5), (bh.only o4 (by omega)).at_ hb5, bk.at_ hb5, hc,
      (o4.below (o3.below ((e2.alloc (by omega) _).alloc (by simp; omega) _) (by omega)) (by omega)).trans (hb5.mono (by omega)), by omega, hg2, by omega, by omega⟩
  rw [← HL.out] at hle ⊢
  clear b0 h0 hb1 hb2 bh bk hc o3 o4 hb5 hB hM z1 z2 z4 hg1 hg2 hpad
  generalize w2.heap.size + 1 = gk at *
  generalize w2.heap.size = gh at *
  go_loopw [6] (fun i wr => ∃ k : Nat, 64 * k ≤ L ∧ i = .int .i64 ((64 * k : Nat) : Int) ∧ Rsm w wr gh gk g L P (S.mixTo P k)) (fun i _ => L - (intOf i).toNat)
  case atStart => exact ⟨0, by omega, rfl, M⟩
  case round =>
    clear M
    obtain ⟨k, hk, rfl, M⟩ := hrel
    by_cases hlt : 64 * k < L
    · have d1 : decide (64 * k < L) = true := by simp; omega
      have d2 : decide (((64 * k : Nat) : Int) < (L : Int)) = true := by simp; omega
      obtain ⟨m, hm⟩ : ∃ m, m = 64 * k := ⟨_, rfl⟩
      rw [← hm] at d1 d2 ⊢
      have hm0 : (0 : Int) ≤ (m : Int) := by omega
      have i64 : IntKind.i64.wrap ((m : Int) + 64) = ((m + 64 : Nat) : Int) := by rw [IntWalk.i64_in _ (by omega)]; omega
      have e1 := sl_mid ⟨g, 0, none⟩ L cap m (m + 64) (m : Int) ((m : Int) + 64) rfl (by omega) (by omega) (by omega)
      have e2 := sl_mid ⟨g, 0, none⟩ L cap m (m + 64) (m : Int) (((m + 64 : Nat) : Int)) rfl (by omega) (by omega) (by omega)
      rw [Nat.add_sub_cancel_left, Addr.add_mid, Nat.zero_add] at e1 e2
      have hbs : ∀ j, j < 64 → wr.cell? ⟨g, m + j, none⟩ = some (.int .u8 ((((P.drop (64 * k)).take 64).getD j 0).toNat : Int)) := fun j hj => by
        rw [hm, M.cs (64 * k + j) (by omega)]
        rw [List.getD_eq_getElem?_getD, List.getD_eq_getElem?_getD, List.getElem?_take_of_lt hj, List.getElem?_drop]
      have hmx : S.mixTo P (k + 1) = S.mix (S.mixTo P k) ((P.drop (64 * k)).take 64) := rfl
      generalize (P.drop (64 * k)).take 64 = B at *
      generalize hV2 : S.mixTo P (k + 1) = V2 at *
      have HV2 := Lib.hid hV2
      clear hV2
      generalize S.mixTo P k = V at *
      have Hmx := Lib.hid hmx
      have Hm := Lib.hid hm
      clear hmx hm
      go_wp2_with (first | (go_at_call 61; with_reducible refine (words_any B g m _ _ hbs M.lg).mono ?_; rintro e w3 ⟨rfl, hb3⟩) | (refine wpList_fresh (by rfl) 34 (by rfl) _ fresh_w64 ?_; simp only [Act.put, List.setIfInBounds_toArray, List.set_cons_succ, List.set_cons_zero]; try simp only [World.size_alloc]) | (refine wpList_fresh (by rfl) 32 (by rfl) _ fresh_r8 ?_; simp only [Act.put, List.setIfInBounds_toArray, List.set_cons_succ, List.set_cons_zero]; try simp only [World.size_alloc]) | ((refine wpList_store_blk (by rfl) 34 (.tmp 7) (.tmp 33) (by rfl) (0) (wsA (S.schTo B 64)) (by rfl) (by rfl) ((Blk.new _ _ _)) ((by rw [wsA_size, wsA_size, schTo_length]; decide)) (size_w64 (S.schTo B 64) (schTo_length _ _)) (wsA_all _) ?_; simp only [Act.put]); intro w4 bw o4) | (refine wpList_load_blk (by rfl) 32 (.tmp 3) (by rfl) 0 (by rfl) ((((M.hs.at_ hb3).alloc _).only o4 (by have := M.hs.lt; have := hb3.size; omega))) (wsA V.list) whole_at _ Try.underlying32 (by rfl) (size_r8 V.list rfl) ?_; simp only [Act.put, List.setIfInBounds_toArray, List.set_cons_succ, List.set_cons_zero]) | ((refine wpList_store_blk (by rfl) 32 (.tmp 8) (.tmp 34) (by rfl) (0) (wsA V.list) (by rfl) (by rfl) ((Blk.new _ _ _)) ((by rw [wsA_size, wsA_size]; simp [S.V8.list])) (size_r8 V.list rfl) (wsA_all _) ?_; simp only [Act.put]); intro w5 bv o5))
      rw [splice_all _ _ (by rw [wsA_size, wsA_size, schTo_length]; decide)] at bw
      rw [splice_all _ _ (by rw [wsA_size, wsA_size]; simp [S.V8.list])] at bv
      have hb4 : Below wr.heap.size wr w4 := o4.below (hb3.alloc hb3.size _) hb3.size
      have hs4 : w4.heap.size = w3.heap.size + 1 := by rw [o4.size]; simp
      have hb6 : Below wr.heap.size wr w5 := o5.below (hb4.alloc hb4.size _) hb4.size
      have bw6 := (bw.alloc (.cells (wsA (List.replicate 8 0#32)) 32)).only o5 (by omega)
      have hgw := hb3.size
      have hgv := hb4.size
      have hne : w3.heap.size ≠ w4.heap.size := by omega
      have hl4 := schTo_length B 64
      clear bw o4 o5 hb3 hb4 hs4 hbs e1 e2
      generalize w3.heap.size = gw at *
      generalize w4.heap.size = gv at *
      have hlvv := bv.lt
      obtain ⟨wA, rfl⟩ : ∃ wA : World, wA = wr := ⟨_, rfl⟩
      go_loopw [9] (fun i wz => ∃ j : Nat, j ≤ 64 ∧ i = .int .i64 (j : Int) ∧ Blk wz gv (wsA (S.rndTo V (S.schTo B 64) j).list) 32 ∧ Blk wz gw (wsA (S.schTo B 64)) 34 ∧ Below wA.heap.size wA wz) (fun i _ => 64 - (intOf i).toNat)
      case atStart => exact ⟨0, by omega, rfl, bv, bw6, hb6⟩
      case round =>
        clear bv bw6 hb6
        obtain ⟨j, hj, rfl, bV, bW, bA⟩ := hrel
        by_cases hlj : j < 64
        · have d3 : decide ((j : Int) < 64) = true := by simp; omega
          have hr : S.rndTo V (S.schTo B 64) (j + 1) = S.rnd (S.rndTo V (S.schTo B 64) j) (S.steps.getD j 0#32) ((S.schTo B 64).getD j 0#32) := rfl
          generalize hu0 : S.rndTo V (S.schTo B 64) (j + 1) = u2 at *
          have hu2 := Lib.hid hu0
          clear hu0
          generalize S.rndTo V (S.schTo B 64) j = u at *
          obtain ⟨X, hX⟩ : ∃ X, X = S.steps.getD j 0#32 := ⟨_, rfl⟩
          obtain ⟨Y, hY⟩ : ∃ Y, Y = (S.schTo B 64).getD j 0#32 := ⟨_, rfl⟩
          rw [← hX, ← hY] at hr
          have HX := Lib.hid hX
          have HY := Lib.hid hY
          clear hX hY
          obtain ⟨ua, ub, uc, ud, ue, uf, ug, uh⟩ := u
          have jk : (0 : Int) ≤ (j : Int) := by omega
          have jk2 : (j : Int) < 64 := by omega
          obtain ⟨v0, v1, v2, v3, v4, v5, v6, v7⟩ := st_cells bV
          have q4 := cell_regrown v4
          go_wp2
          refine wp_region_quiet_below (by kernel_rfl) (by kernel_rfl) ?_
          repeat (first | fail | go_big_quiet_step (first | with_reducible exact calls_regrown _ (fun W _ => right_b ue 6 6 rfl (by omega) (by omega) W) | with_reducible exact calls_regrown _ (fun W _ => right_b ue 11 11 rfl (by omega) (by omega) W) | with_reducible exact calls_regrown _ (fun W _ => right_b ue 25 25 rfl (by omega) (by omega) W) | fail))
          refine wpQuiet_nil ?_
          intro w1 hw1
          obtain ⟨pp, hpp⟩ := hw1
          have hw1 : Below wr.heap.size wr w1 := hpp ▸ below_regrown _ _ _
          clear hpp q4
          replace bV := bV.at_ hw1
          replace bW := bW.at_ hw1
          replace bA := bA.trans (hw1.mono bA.size)
          obtain ⟨v0, v1, v2, v3, v4, v5, v6, v7⟩ := st_cells bV
          clear hw1
          generalize w1 = w2 at *
          generalize hE1 : S.rotr ue 6 ^^^ S.rotr ue 11 ^^^ S.rotr ue 25 = E1 at *
          have HE1 := Lib.hid hE1
          clear hE1
          go_wp2
          generalize hCH : ue &&& uf ||| ~~~ue &&& ug = CH at *
          have HCH := Lib.hid hCH
          clear hCH
          have kc := (M.at_ bA).ks.cellv (wsA_get S.steps j (by rw [show S.steps.length = 64 from rfl]; omega))
          have kw := bW.cellv (wsA_get (S.schTo B 64) j (by rw [hl4]; exact hlj))
          rw [← HX.out] at kc
          rw [← HY.out] at kw
          go_quiet (fail)
          replace bV := bV.drewN nq
          replace bW := bW.drewN nq
          replace bA := below_drewN bA nq
          clear kc kw
          generalize w2.drewN nq = w3 at *
          obtain ⟨v0, v1, v2, v3, v4, v5, v6, v7⟩ := st_cells bV
          have q0 := cell_regrown v0
          generalize hP : uh + E1 + CH + X + Y = P1 at *
          have HP := Lib.hid hP
          clear hP
          go_wp2
          refine wp_region_quiet_below (by kernel_rfl) (by kernel_rfl) ?_
          repeat (first | fail | go_big_quiet_step (first | with_reducible exact calls_regrown _ (fun W _ => right_b ua 2 2 rfl (by omega) (by omega) W) | with_reducible exact calls_regrown _ (fun W _ => right_b ua 13 13 rfl (by omega) (by omega) W) | with_reducible exact calls_regrown _ (fun W _ => right_b ua 22 22 rfl (by omega) (by omega) W) | fail))
          refine wpQuiet_nil ?_
          intro w1 hw1
          obtain ⟨pp, hpp⟩ := hw1
          have hw1 : Below w3.heap.size w3 w1 := hpp ▸ below_regrown _ _ _
          clear hpp q0
          replace bV := bV.at_ hw1
          replace bW := bW.at_ hw1
          replace bA := bA.trans (hw1.mono bA.size)
          obtain ⟨v0, v1, v2, v3, v4, v5, v6, v7⟩ := st_cells bV
          clear hw1
          generalize w1 = w4 at *
          generalize hE0 : S.rotr ua 2 ^^^ S.rotr ua 13 ^^^ S.rotr ua 22 = E0 at *
          have HE0 := Lib.hid hE0
          clear hE0
          have eu : S.V8.list u2 = [P1 + E0 + ((ua &&& ub ||| ua &&& uc) ||| ub &&& uc), ua, ub, uc, ud + P1, ue, uf, ug] := by
            have hp1 : S.p1 ⟨ua, ub, uc, ud, ue, uf, ug, uh⟩ X Y = P1 := by
              rw [← HP.out, ← HE1.out, ← HCH.out, ch_or]; rfl
            have hp2 : S.p2 ⟨ua, ub, uc, ud, ue, uf, ug, uh⟩ = E0 + ((ua &&& ub ||| ua &&& uc) ||| ub &&& uc) := by
              rw [← HE0.out, maj_or]; rfl
            rw [hr]
            unfold S.rnd
            rw [hp1, hp2, BitVec.add_assoc]
            rfl
          have Heu := Lib.hid eu
          clear eu hr
          go_wp2_with (first | (refine wpList_build (by rfl) 32 ([(0, .tmp 108), (1, .tmp 110), (2, .tmp 112), (3, .tmp 114), (4, .tmp 118), (5, .tmp 120), (6, .tmp 122), (7, .tmp 124)]) (by rfl) ([(0, .int .u32 (uw (P1 + E0 + ((ua &&& ub ||| ua &&& uc) ||| ub &&& uc)))), (1, .int .u32 (uw ua)), (2, .int .u32 (uw ub)), (3, .int .u32 (uw uc)), (4, .int .u32 (uw (ud + P1))), (5, .int .u32 (uw ue)), (6, .int .u32 (uw uf)), (7, .int .u32 (uw ug))]) (by rfl) (.agg (wsA [P1 + E0 + ((ua &&& ub ||| ua &&& uc) ||| ub &&& uc), ua, ub, uc, ud + P1, ue, uf, ug])) (build_r8 _ _ _ _ _ _ _ _) ?_; simp only [Act.put, List.setIfInBounds_toArray, List.set_cons_succ, List.set_cons_zero]) | ((refine wpList_store_blk (by rfl) 32 (.tmp 8) (.tmp 125) (by rfl) (0) (wsA [P1 + E0 + ((ua &&& ub ||| ua &&& uc) ||| ub &&& uc), ua, ub, uc, ud + P1, ue, uf, ug]) (by rfl) (by rfl) (bV) ((by rw [wsA_size, wsA_size]; simp [S.V8.list])) (size_r8 [P1 + E0 + ((ua &&& ub ||| ua &&& uc) ||| ub &&& uc), ua, ub, uc, ud + P1, ue, uf, ug] rfl) (wsA_all _) ?_; simp only [Act.put]); intro w6 bv o6))
          rw [splice_all _ _ (by rw [wsA_size, wsA_size]; rfl), ← Heu.out, ← hu2.out] at bv
          replace bW := bW.only o6 (by omega)
          replace bA := o6.below bA (by omega)
          clear bV v0 v1 v2 v3 v4 v5 v6 v7 o6 Heu HP HE1 HE0 HCH HX HY hu2
          go_wp2
          go_roundw
          case rel => exact ⟨j + 1, by omega, by go_num, bv, bW, bA⟩
          case measure => simp [intOf]; omega
        · obtain rfl : j = 64 := by omega
          have hb2 := M.at_ bA
          have bS := hb2.hs
          rw [← addL_0 V (S.rndTo V (S.schTo B 64) 64).list] at bS
          have hm2 : S.mix V B = V.add (S.rndTo V (S.schTo B 64) 64) := rfl
          have hgh : gh < wA.heap.size := M.hs.lt
          generalize S.rndTo V (S.schTo B 64) 64 = u at *
          clear bW M
          go_wp2
          obtain ⟨wB, rfl⟩ : ∃ wB : World, wB = wr := ⟨_, rfl⟩
          go_loopw [126] (fun i wz => ∃ j : Nat, j ≤ 8 ∧ i = .int .i64 (j : Int) ∧ Blk wz gv (wsA u.list) 32 ∧ Blk wz gh (wsA (addL V.list u.list j)) 32 ∧ wB.grownBy wz (some gh)) (fun i _ => 8 - (intOf i).toNat)
          case atStart => exact ⟨0, by omega, rfl, bV, bS, World.grownBy.refl _ _⟩
          case round =>
            clear bV bS
            obtain ⟨j, hj8, rfl, bV, bS, hG⟩ := hrel
            by_cases hlj : j < 8
            · have d3 : decide ((j : Int) < 8) = true := by simp; omega
              have jk : (0 : Int) ≤ (j : Int) := by omega
              have jk2 : (j : Int) < 8 := by omega
              have ks := bS.cellv (wsA_get (addL V.list u.list j) j (by rw [addL_length]; omega))
              have kv := bV.cellv (wsA_get u.list j (by show j < 8; omega))
              rw [addL_get _ _ j hlj] at ks
              have fs := bS.free j
              have hset := wsA_set (addL V.list u.list j) j (V.list.getD j 0#32 + u.list.getD j 0#32)
              rw [addL_set _ _ j hlj] at hset
              unfold w32 at hset
              have Hset := Lib.hid hset
              clear hset
              generalize V.list.getD j 0#32 = X at *
              generalize u.list.getD j 0#32 = Y at *
              go_wp2
              go_still_tail 8, (by kernel_rfl)
              change wpList _ _ _ _ _ wr.drew
              have ks2 : wr.drew.cell? ⟨gh, j, none⟩ = _ := ks
              have fs2 : wr.drew.frozen? ⟨gh, j, none⟩ = false := fs
              have b2 := bS.drew.set_ j (.int .u32 (uw (X + Y)))
              rw [Hset.out] at b2
              have c2 := bV.drew.far (p := ⟨gh, j, none⟩) (by simp; omega) (.int .u32 (uw (X + Y)))
              have g2 : wB.grownBy (wr.drew.setCell ⟨gh, j, none⟩ (.int .u32 (uw (X + Y)))) (some gh) := ⟨hG.os, hG.tape, hG.output, by simp only [World.setCell, Array.size_modify]; exact hG.size, fun i hi hne => (Below.heap_setCell wr.drew _ _ i (fun e => hne (by rw [e]))).trans (hG.block i hi hne)⟩
              clear bS bV hG ks kv fs jk jk2
              generalize X + Y = Z at *
              generalize wr.drew = w7 at *
              go_wp2
              go_roundw
              case rel => (repeat apply Exists.intro); exact ⟨⟨j + 1, by omega, by go_num, c2, b2, g2⟩, rfl⟩
              case measure => simp [intOf]; omega
            · obtain rfl : j = 8 := by omega
              rw [addL_8, ← hm2, ← Hmx.out] at bS
              have M3 := hb2.grown bS hG
              clear hb2 bV bS hG
              go_wp2
              go_roundw
              case rel => exact ⟨k + 1, by omega, by have := Hm.out; rw [show ((64 * (k + 1) : Nat) : Int) = (m : Int) + 64 from by omega], by rw [HV2.out]; exact M3⟩
              case measure => have := Hm.out; simp [intOf]; omega
    · have hk64 : L / 64 = k := by omega
      have d1 : decide (64 * k < L) = false := by simp; omega
      have d2 : decide (((64 * k : Nat) : Int) < (L : Int)) = false := by simp; omega
      have HSk := HS.out
      rw [hk64] at HSk
      have HS2 := Lib.hid HSk
      clear hk64 HSk HS HL
      obtain ⟨m, hm⟩ : ∃ m, m = 64 * k := ⟨_, rfl⟩
      rw [← hm] at d1 d2 ⊢
      clear hm hk hlt
      generalize S.mixTo P k = V at *
      go_wp2_with (first | (refine wpList_zero (by rfl) 25 (by rfl) _ zero_lab ?_; simp only [Act.put, List.setIfInBounds_toArray, List.set_cons_succ, List.set_cons_zero]) | (refine wpList_fresh (by rfl) 25 (by rfl) _ fresh_lab ?_; simp only [Act.put, List.setIfInBounds_toArray, List.set_cons_succ, List.set_cons_zero]; try simp only [World.size_alloc]) | ((refine wpList_store_blk (by rfl) 25 (.tmp 16) (.tmp 138) (by rfl) (0) (labA zlab) (by rfl) (by rfl) ((Blk.new _ _ _)) ((by rw [labA_size]; decide)) (size_lab zlab rfl) (labA_all _) ?_; simp only [Act.put]); intro w8 bo o8))
      rw [splice_all _ _ rfl, ← outL_0 V] at bo
      have hb8 : Below wr.heap.size wr w8 := o8.below (below_alloc1 _ _) (Nat.le_refl _)
      have M8 := M.at_ hb8
      have hgO : gh < wr.heap.size := M.hs.lt
      have hlh := M.lh
      have bH := M8.hs
      have bR := M8.out
      have bB := M8.bel
      clear M M8 hb8 o8
      generalize wr.heap.size = gO at *
      go_loopw [139] (fun i wz => ∃ k : Nat, k ≤ 32 ∧ i = .int .i64 (k : Int) ∧ Blk wz gO (labA (outL V k)) 25 ∧ Blk wz gh (wsA V.list) 32 ∧ Blk wz w.heap.size (labA zlab) 25 ∧ Below w.heap.size w wz) (fun i _ => 32 - (intOf i).toNat)
      case atStart => exact ⟨0, by omega, rfl, bo, bH, bR, bB⟩
      case round =>
        clear bo bH bR bB
        obtain ⟨k, hk, rfl, bo, bH, bR, bB⟩ := hrel
        by_cases hlt : k < 32
        · have d3 : decide ((k : Int) < 32) = true := by simp; omega
          have ks := bH.cellv (wsA_get V.list (k / 4) (by show k / 4 < 8; omega))
          have ko := bo.cellv (labA_get (outL V k) k (by rw [outL_length _ _ hk]; exact hlt))
          have fo := bo.free k
          have hb := S.outB_getD V k hlt
          have hset := outL_set V k hlt
          rw [hb] at hset
          have jk : (0 : Int) ≤ (k : Int) := by omega
          have jk2 : (k : Int) < 32 := by omega
          have hq : (k : Int) / 4 = ((k / 4 : Nat) : Int) := by omega
          have hr : (k : Int) % 4 = ((k % 4 : Nat) : Int) := by omega
          have hq1 : ((k / 4 : Nat) : Int) < 8 := by omega
          have hr1 : ((k % 4 : Nat) : Int) < 4 := by omega
          have hq0 : (0 : Int) ≤ ((k / 4 : Nat) : Int) := by omega
          have hr0 : (0 : Int) ≤ ((k % 4 : Nat) : Int) := by omega
          have hd := word_byte (V.list.getD (k / 4) 0#32) (k % 4) (by omega)
          rw [Int.mul_comm 8] at hd
          have h8 : ((UInt8.ofNat ((V.list.getD (k / 4) 0#32).toNat / 256 ^ (3 - k % 4))).toNat : Int) = (((V.list.getD (k / 4) 0#32).toNat / 256 ^ (3 - k % 4) : Nat) : Int) % 256 := by rw [UInt8.toNat_ofNat']; omega
          have bp := blk_put bo k (UInt8.ofNat ((V.list.getD (k / 4) 0#32).toNat / 256 ^ (3 - k % 4)))
          rw [h8, hset] at bp
          have hz0 := Int.natCast_nonneg ((V.list.getD (k / 4) 0#32).toNat / 256 ^ (3 - k % 4))
          generalize (V.list.getD (k / 4) 0#32).toNat / 256 ^ (3 - k % 4) = Z at *
          generalize V.list.getD (k / 4) 0#32 = X at *
          generalize k / 4 = qn at *
          generalize k % 4 = rn at *
          clear hb hset h8
          have bHp := bH.far (p := ⟨gO, k, none⟩) (by simp; omega) (.int .u8 ((Z : Int) % 256))
          have bRp := bR.far (p := ⟨gO, k, none⟩) (by simp; omega) (.int .u8 ((Z : Int) % 256))
          have bBp := bB.setCell (p := ⟨gO, k, none⟩) (by simp; omega) (.int .u8 ((Z : Int) % 256))
          clear bo bH bR bB
          go_wp2
          go_roundw
          case rel => exact ⟨k + 1, by omega, by go_num, bp, bHp, bRp, bBp⟩
          case measure => simp [intOf]; omega
        · obtain rfl : k = 32 := by omega
          rw [outL_32, ← HS2.out] at bo
          have hl32 := S.sum_length l
          go_wp2_with (first | (refine wpList_load_blk (by rfl) 25 (.tmp 16) (by rfl) 0 (by rfl) (bo) (labA (S.sum l)) whole_at _ Try.underlying25 (by rfl) (size_lab (S.sum l) hl32) ?_; simp only [Act.put, List.setIfInBounds_toArray, List.set_cons_succ, List.set_cons_zero]) | ((refine wpList_store_blk (by rfl) 25 (.tmp 2) (.tmp 155) (by rfl) (0) (labA (S.sum l)) (by rfl) (by rfl) (bR) ((by rw [labA_size, labA_size, hl32]; decide)) (size_lab (S.sum l) hl32) (labA_all _) ?_; simp only [Act.put]); intro w9 b9 o9))
          rw [splice_all _ _ (by rw [labA_size, labA_size, hl32]; decide)] at b9
          exact bodyPost_ret (v := .agg (labA (S.sum l))) (results_blk (by rfl) _ b9 _ (by rfl) Try.underlying25 (by rfl) (size_lab (S.sum l) hl32)) rfl ⟨rfl, o9.below bB (Nat.le_refl _)⟩
end Go.Proofs.Ytgjmnhbkdccgpaa
