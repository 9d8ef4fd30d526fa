/- The walk of the document's Same, at two lists that read alike. -/
import Derived.Test.YtnfabofkfnmplaaLvY
import Derived.Test.YtnfabofkfnmplaaLvO
namespace Go.Proofs.Ytnfabofkfnmplaa
open Go.RowKit

noncomputable def fE (k : Nat) : Field := (Try.prog.fieldsOf 26).toList.getD k { name := "_", type := 0, offset := 0, embedded := false, tag := "", pkgPath := "", byteOffset := 0 }
theorem eqFields_same (d : Nat) (xs : Array Value) (w : World) : ∀ (fs : List Field), (∀ f ∈ fs, f.name ≠ "_" ∧ ∃ a, (part f.type xs f.offset).run Try.prog w = .ok a w ∧ (Op.equalIn d f.type a a).run Try.prog w = .ok true w) → (Op.eqFields d xs xs fs).run Try.prog w = .ok true w
  | [], _ => rfl
  | f :: fs, h => by
    obtain ⟨h1, a, h2, h3⟩ := h f List.mem_cons_self
    unfold Op.eqFields
    rw [if_pos h1]
    simp only [Sem.run_bind, h2, h3, Result.andThen_ok, Bool.not_true, Bool.false_eq_true, if_false]
    exact eqFields_same d xs w fs fun g hg => h g (List.mem_cons_of_mem _ hg)
theorem neq_en (x : L.En) (w : World) : (binOp .neq 26 (.agg (enC x).toArray) (.agg (enC x).toArray)).run Try.prog w = .ok (.bool false) w := by
  have hu : Try.prog.underlying 26 = some (.struct (Try.prog.fieldsOf 26)) := by kernel_rfl
  have hs : Try.prog.stoodInHeld 26 = false := by kernel_rfl
  have hf : (Try.prog.fieldsOf 26).toList = [fE 0, fE 1, fE 2] := by kernel_rfl
  rw [run_neq_struct, run_equalIn_agg _ 9999 _ _ _ hu hs, eqFields_same]
  · rfl
  · rw [hf]
    have t0 : Try.prog.underlying (fE 0).type = some .string := by kernel_rfl
    have t1 : Try.prog.underlying (fE 1).type = some .string := by kernel_rfl
    have t2 : Try.prog.underlying (fE 2).type = some .bool := by kernel_rfl
    have p0 : (part (fE 0).type (enC x).toArray (fE 0).offset).run Try.prog w = .ok (.string ⟨x.key.toArray⟩) w := by kernel_rfl
    have p1 : (part (fE 1).type (enC x).toArray (fE 1).offset).run Try.prog w = .ok (.string ⟨x.val.toArray⟩) w := by kernel_rfl
    have p2 : (part (fE 2).type (enC x).toArray (fE 2).offset).run Try.prog w = .ok (.bool x.gone) w := by kernel_rfl
    intro f hm
    rcases List.mem_cons.1 hm with rfl | hm
    · exact ⟨by decide +kernel, _, p0, by rw [run_equalIn_string _ 9998 _ _ _ t0]; simp⟩
    rcases List.mem_cons.1 hm with rfl | hm
    · exact ⟨by decide +kernel, _, p1, by rw [run_equalIn_string _ 9998 _ _ _ t1]; simp⟩
    rcases List.mem_cons.1 hm with rfl | hm
    · exact ⟨by decide +kernel, _, p2, by rw [run_equalIn_bool' _ 9998 _ _ _ t2]; simp⟩
    cases hm
theorem guard_en : Try.prog.eqGuardType Try.prog.depth 26 = false := by kernel_rfl
set_option maxRecDepth 100000 in
set_option maxHeartbeats 4000000 in
theorem same_any (l : List L.En) (va vb : Value) (w : World) (ha : ERead w va l) (hb : ERead w vb l) (hl : l.length ≤ 1000000) :
    Calls Try.prog 10 #[va, vb] w fun e w' => e = .returned (.bool true) ∧ Below w.heap.size w w' := by
  obtain ⟨A, c, rfl, hcap, ha⟩ := eread_open ha
  obtain ⟨A2, c2, rfl, hcap2, hb⟩ := eread_open hb
  have hB0 := Below.refl w.heap.size w
  have d0 : ((l.length : Int) == (l.length : Int)) = true := by rw [beq_iff_eq]
  have d0' : (l.length == l.length) = true := by rw [beq_iff_eq]
  go_enter Try.func10, Try.ntmps10
  go_wp2
  go_loopw [13] (fun i wr => ∃ k : Nat, k ≤ l.length ∧ i = .int .i64 (k : Int) ∧ Below w.heap.size w wr) (fun i _ => l.length - (intOf i).toNat)
  case atStart => exact ⟨0, Nat.zero_le _, rfl, hB0⟩
  case round =>
    clear hB0 d0 d0'
    obtain ⟨k, hk, rfl, hB⟩ := hrel
    have q0 : (0 : Int) ≤ (k : Int) := by omega
    by_cases hm : k < l.length
    · have d1 : decide ((k : Int) < (l.length : Int)) = true := decide_eq_true (by omega)
      have d1' : decide (k < l.length) = true := decide_eq_true hm
      have q1 : (k : Int) < (l.length : Int) := by omega
      have hw1 : IntKind.i64.wrap ((k : Int) + 1) = ((k + 1 : Nat) : Int) := by rw [IntWalk.i64_in _ (by omega)]; omega
      obtain ⟨x, hx⟩ : ∃ f, l[k]? = some f := ⟨_, List.getElem?_eq_getElem hm⟩
      obtain ⟨g, o, rfl, hg, cR⟩ := eread_at (ha.at_ hB) hx
      obtain ⟨g2, o2, rfl, hg2, cR2⟩ := eread_at (hb.at_ hB) hx
      clear hx ha hb
      go_wp2
      apply wp_region_rel_below [[(0, none)], [(5, none)], [(16, some 0), (17, some 1)], [(18, some 2)], [(1, none)], [(5, none)], [(20, some 4), (21, some 5)], [(22, some 6)], [(19, some 3), (23, some 7)]] [eqv _, eqv _, eqv _, eqv _, eqv _, eqv _, eqv _, eqv _, eqv _] (by kernel_rfl) (by kernel_rfl)
      case hobs =>
        refine ⟨?_, ?_⟩
        · rintro L a1 w1 hT - - ⟨h0, -⟩   -- 0: Op.move t0
          have e0 : a1.tmps.getD 0 undef = _ := h0
          have f0 := getD_form e0
          clear h0
          go_simp; exact left_intro rfl (Stp.refl _) trivial
        refine ⟨?_, ?_⟩
        · rintro L a1 w1 hT - - ⟨h5, -⟩   -- 1: Op.move t5
          have e5 : a1.tmps.getD 5 undef = _ := h5
          have f5 := getD_form e5
          clear h5
          go_simp; exact left_intro rfl (Stp.refl _) trivial
        refine ⟨?_, ?_⟩
        · rintro L a1 w1 hT - - ⟨h16, h17, -⟩   -- 2: Op.indexAddr 23 t16 t17
          have e16 : a1.tmps.getD 16 undef = _ := h16
          have f16 := getD_form e16
          have e17 : a1.tmps.getD 17 undef = _ := h17
          have f17 := getD_form e17
          clear h16 h17
          go_simp; exact left_intro rfl (Stp.refl _) trivial
        refine ⟨?_, ?_⟩
        · rintro L a1 w1 hT - - ⟨h18, -⟩   -- 3: Op.load 26 t18
          have e18 : a1.tmps.getD 18 undef = _ := h18
          have f18 := getD_form e18
          clear h18
          exact wp_load_mid 26 (.tmp 18) rfl g (o + k * 3) e18 _ _ (range_below hT hg cR) Try.underlying26 rfl size_en (left_intro (T := Stp) (Ph := fun _ _ _ => True) rfl (Stp.refl _) trivial)
        refine ⟨?_, ?_⟩
        · rintro L a1 w1 hT - - ⟨h1, -⟩   -- 4: Op.move t1
          have e1 : a1.tmps.getD 1 undef = _ := h1
          have f1 := getD_form e1
          clear h1
          go_simp; exact left_intro rfl (Stp.refl _) trivial
        refine ⟨?_, ?_⟩
        · rintro L a1 w1 hT - - ⟨h5, -⟩   -- 5: Op.move t5
          have e5 : a1.tmps.getD 5 undef = _ := h5
          have f5 := getD_form e5
          clear h5
          go_simp; exact left_intro rfl (Stp.refl _) trivial
        refine ⟨?_, ?_⟩
        · rintro L a1 w1 hT - - ⟨h20, h21, -⟩   -- 6: Op.indexAddr 23 t20 t21
          have e20 : a1.tmps.getD 20 undef = _ := h20
          have f20 := getD_form e20
          have e21 : a1.tmps.getD 21 undef = _ := h21
          have f21 := getD_form e21
          clear h20 h21
          go_simp; exact left_intro rfl (Stp.refl _) trivial
        refine ⟨?_, ?_⟩
        · rintro L a1 w1 hT - - ⟨h22, -⟩   -- 7: Op.load 26 t22
          have e22 : a1.tmps.getD 22 undef = _ := h22
          have f22 := getD_form e22
          clear h22
          exact wp_load_mid 26 (.tmp 22) rfl g2 (o2 + k * 3) e22 _ _ (range_below hT hg2 cR2) Try.underlying26 rfl size_en (left_intro (T := Stp) (Ph := fun _ _ _ => True) rfl (Stp.refl _) trivial)
        refine ⟨?_, ?_⟩
        · rintro L a1 w1 hT - - ⟨h19, h23, -⟩   -- 8: Op.binOp BinOp.neq 26 t19 t23 26
          have e19 : a1.tmps.getD 19 undef = _ := h19
          have f19 := getD_form e19
          have e23 : a1.tmps.getD 23 undef = _ := h23
          have f23 := getD_form e23
          clear h19 h23
          exact wp_bin .neq 26 26 (.tmp 19) (.tmp 23) rfl _ _ e19 e23 guard_en _ (neq_en x _) (left_intro (T := Stp) (Ph := fun _ _ _ => True) rfl (Stp.refl _) trivial)
        trivial
      case hmono => repeat (first | exact trivial | refine ⟨fun _ _ _ _ h => h, ?_⟩)
      case hend =>
        intro w2 hT
        rintro _ rfl _ rfl _ rfl _ rfl _ rfl _ rfl _ rfl _ rfl _ rfl
        simp only [relEnd, Act.put, List.setIfInBounds_toArray, List.set_cons_succ, List.set_cons_zero]
        have hB2 := hB.trans (hT.mono hB.size)
        go_wp2
        go_roundw
        case rel => exact ⟨k + 1, by omega, rfl, hB2⟩
        case measure => simp [intOf]; omega
    · have d1 : decide ((k : Int) < (l.length : Int)) = false := decide_eq_false (by omega)
      have d1' : decide (k < l.length) = false := decide_eq_false hm
      go_wp2
      go_ret
      exact ⟨rfl, hB⟩
end Go.Proofs.Ytnfabofkfnmplaa
