/- The walks of Cut and of Few. -/
import Derived.Test.YtnfabofkfnmplaaLvK
import Derived.Deep.Cut
namespace Go.Proofs.Ytnfabofkfnmplaa
open Go.RowKit

set_option maxHeartbeats 1000000 in
/-- Cut. -/
theorem lcut_any (s : List UInt8) (n : Nat) (w : World) :
    Calls Try.prog 25 #[.string ⟨s.toArray⟩, .int .i64 (n : Int)] w fun e w' => e = .returned (.string ⟨(s.take n).toArray⟩) ∧ w = w' := by
  have hz := str_size s
  by_cases h : n < s.length
  · have d1 : decide ((n : Int) < ((⟨s.toArray⟩ : ByteArray).size : Int)) = true := by rw [hz]; simp; omega
    have d1' : decide (n < (⟨s.toArray⟩ : ByteArray).size) = true := by rw [hz]; simp; omega
    have hcut := str_upto_ s n (n : Int) rfl (by omega)
    clear hz h
    generalize s.take n = t at *
    generalize (⟨s.toArray⟩ : ByteArray) = S at *
    go_enter Try.func25, Try.ntmps25
    go_wp2
    go_ret
    exact ⟨rfl, rfl⟩
  · have d1 : decide ((n : Int) < ((⟨s.toArray⟩ : ByteArray).size : Int)) = false := by rw [hz]; simp; omega
    have d1' : decide (n < (⟨s.toArray⟩ : ByteArray).size) = false := by rw [hz]; simp; omega
    have Ht := Lib.hid (List.take_of_length_le (show s.length ≤ n by omega))
    clear hz h
    generalize hS : (⟨s.toArray⟩ : ByteArray) = S at *
    have HS := Lib.hid hS
    clear hS
    go_enter Try.func25, Try.ntmps25
    go_wp2
    go_ret
    rw [Ht.out, HS.out]
    exact ⟨rfl, rfl⟩
theorem lcut_to (s : List UInt8) (n : Nat) {z : Int} (hz : (n : Int) = z) (w : World) : Calls Try.prog 25 #[.string ⟨s.toArray⟩, .int .i64 z] w fun e w' => e = .returned (.string ⟨(s.take n).toArray⟩) ∧ w = w' := by
  rw [← hz]; exact lcut_any s n w
namespace L
def cutE (x : En) : En := ⟨x.key.take 110, x.val.take 4010, x.gone⟩
def few (l : List En) (n : Nat) : List En := (l.take n).map cutE
end L
set_option maxRecDepth 100000 in
set_option maxHeartbeats 4000000 in
theorem few_any (l : List L.En) (v : Value) (n : Nat) (w : World) (h : ERead w v l) (hn : n ≤ 100) :
    Calls Try.prog 12 #[v, .int .i64 (n : Int)] w fun e w' => ∃ v', e = .returned v' ∧ ERow w' v' (L.few l n) ∧ (v'.ownBlock = none ∨ ∃ k, w.heap.size ≤ k ∧ v'.ownBlock = some k) ∧ Below w.heap.size w w' := by
  obtain ⟨A, c, rfl, hcap, h⟩ := eread_open h
  have r0 : ERow (w.alloc (.cells #[] 26)) (.slice (some ⟨w.heap.size, 0, none⟩) 0 0) [] := RowN.build w _ 3 [] #[] 0 rfl (by simp) rfl (by omega)
  have hb0 := below_alloc1 w (.cells #[] 26)
  go_enter Try.func12, Try.ntmps12
  go_wp2
  go_loopw [5, 6] (fun u i wr => ∃ k : Nat, i = .int .i64 (k : Int) ∧ k ≤ l.length ∧ k ≤ n ∧ ERow wr u ((l.take k).map L.cutE) ∧ (u.ownBlock = none ∨ ∃ k, w.heap.size ≤ k ∧ u.ownBlock = some k) ∧ Below w.heap.size w wr) (fun _ i _ => n - (intOf i).toNat)
  case atStart => exact ⟨0, rfl, Nat.zero_le _, Nat.zero_le _, r0, .inr ⟨_, Nat.le_refl _, rfl⟩, hb0⟩
  case round =>
    clear r0 hb0
    obtain ⟨k, rfl, hk1, hk2, hrow, hown, hB⟩ := hrel
    have q0 : (0 : Int) ≤ (k : Int) := by omega
    by_cases hm : k < l.length ∧ k < n
    · obtain ⟨hm1, hm2⟩ := hm
      have d1 : decide ((k : Int) < (l.length : Int)) = true := decide_eq_true (by omega)
      have d1' : decide (k < l.length) = true := decide_eq_true hm1
      have d2 : decide ((k : Int) < (n : Int)) = true := decide_eq_true (by omega)
      have d2' : decide (k < n) = true := decide_eq_true hm2
      have q1 : (k : Int) < (l.length : Int) := by omega
      have hw1 : IntKind.i64.wrap ((k : Int) + 1) = ((k + 1 : Nat) : Int) := by rw [IntWalk.i64_in _ (by omega)]; omega
      obtain ⟨⟨ky, vy, gy⟩, hy⟩ : ∃ f, l[k]? = some f := ⟨_, List.getElem?_eq_getElem hm1⟩
      obtain ⟨g, o, rfl, hg, cR⟩ := eread_at (h.at_ hB) hy
      have htk := Lib.hid (show (l.take (k + 1)).map L.cutE = (l.take k).map L.cutE ++ [(⟨ky.take 110, vy.take 4010, gy⟩ : L.En)] by
        obtain ⟨h1, h2⟩ := List.getElem?_eq_some_iff.1 hy
        rw [List.take_succ_eq_append_getElem h1, List.map_append, h2]
        rfl)
      have cR' : wr.rangeAt g (o + k * 3) [.string ⟨ky.toArray⟩, .string ⟨vy.toArray⟩, .bool gy] := cR
      have hsz : (Try.prog.info? 26).map (·.size) = some [Value.string ⟨ky.toArray⟩, .string ⟨vy.toArray⟩, .bool gy].length := size_en
      have hrow1 := hrow.alloc (.cells #[.string ⟨ky.toArray⟩, .string ⟨vy.toArray⟩, .bool gy] 26)
      have X1 := Blk.new wr #[.string ⟨ky.toArray⟩, .string ⟨vy.toArray⟩, .bool gy] 26
      have hB1 := hB.alloc hB.size (.cells #[.string ⟨ky.toArray⟩, .string ⟨vy.toArray⟩, .bool gy] 26)
      have hk3 := Lib.hid (show k + 1 ≤ l.length ∧ k + 1 ≤ n from ⟨hm1, hm2⟩)
      have hkn : ((l.take k).map L.cutE).length ≤ 100 := by rw [List.length_map, List.length_take]; omega
      have C1 := Lib.hid (fun W => lcut_to ky 110 (z := 110) rfl W)
      have C2 := Lib.hid (fun W => lcut_to vy 4010 (z := 4010) rfl W)
      clear cR hg hy
      generalize (l.take k).map L.cutE = acc at *
      generalize ky.take 110 = kc at *
      generalize vy.take 4010 = vc at *
      have hlm : ((acc.map enC).length + 1) * 40 ≤ 140737488355328 := by (rw [List.length_map]; exact Nat.le_trans (Nat.mul_le_mul_right 40 (Nat.succ_le_succ hkn)) (by decide))
      go_upto_region 6 with (refine wpList_load_mid rfl 26 (.tmp 22) rfl g (o + k * 3) rfl _ _ cR' Try.underlying26 rfl hsz ?_; go_frame)
      refine wp_world fun W1 hW1 => ?_
      rw [← hW1] at hrow1 X1 hB1
      clear hW1 cR' hsz d1 d1' d2 d2' q1 hB hrow hkn
      replace X1 := X1.drew
      apply wp_region_rel_below_tail 11 [[(5, none)], [(7, none)], [(25, some 1)], [(26, some 2)], [(7, none)], [(28, some 4)], [(29, some 5)], [(7, none)], [(31, some 7)], [(27, some 3), (30, some 6), (32, some 8)], [(33, some 9)]] [eqv _, eqv _, eqv _, eqv _, eqv _, eqv _, eqv _, eqv _, eqv _, eqv _, blkRow 1 1 #[.string ⟨kc.toArray⟩, .string ⟨vc.toArray⟩, .bool gy] 26] (by kernel_rfl) (by kernel_rfl)
      case hobs =>
        refine ⟨?_, ?_⟩
        · rintro L a1 w1 hT - - ⟨h5, -⟩   -- 0: Op.move t5
          have e5 : a1.tmps.getD 5 undef = _ := h5
          have f5 := getD_form e5
          clear h5
          go_simp; exact left_intro rfl (Stp.refl _) trivial
        refine ⟨?_, ?_⟩
        · rintro L a1 w1 hT - - ⟨h7, -⟩   -- 1: Op.fieldAddr 26 t7 0
          have e7 : a1.tmps.getD 7 undef = _ := h7
          have f7 := getD_form e7
          clear h7
          go_simp; exact left_intro rfl (Stp.refl _) trivial
        refine ⟨?_, ?_⟩
        · rintro L a1 w1 hT - - ⟨h25, -⟩   -- 2: Op.load 9 t25
          have e25 : a1.tmps.getD 25 undef = _ := h25
          have f25 := getD_form e25
          clear h25
          have c := (X1.at_ hT).cellv (i := 0) rfl
          go_simp; exact left_intro rfl (Stp.refl _) trivial
        refine ⟨?_, ?_⟩
        · rintro L a1 w1 hT - - ⟨h26, -⟩   -- 3: Op.call { value (Operand.func 25), args := #[t26, const (110:i64)], argTypes := #[9, 3] }
          have e26 : a1.tmps.getD 26 undef = _ := h26
          have f26 := getD_form e26
          clear h26
          go_simp; go_at_call 25; (with_reducible refine (C1.out _).mono ?_); rintro e w2 ⟨rfl, rfl⟩; exact left_intro rfl (Stp.refl _) trivial
        refine ⟨?_, ?_⟩
        · rintro L a1 w1 hT - - ⟨h7, -⟩   -- 4: Op.fieldAddr 26 t7 1
          have e7 : a1.tmps.getD 7 undef = _ := h7
          have f7 := getD_form e7
          clear h7
          go_simp; exact left_intro rfl (Stp.refl _) trivial
        refine ⟨?_, ?_⟩
        · rintro L a1 w1 hT - - ⟨h28, -⟩   -- 5: Op.load 9 t28
          have e28 : a1.tmps.getD 28 undef = _ := h28
          have f28 := getD_form e28
          clear h28
          have c := (X1.at_ hT).cellv (i := 1) rfl
          go_simp; exact left_intro rfl (Stp.refl _) trivial
        refine ⟨?_, ?_⟩
        · rintro L a1 w1 hT - - ⟨h29, -⟩   -- 6: Op.call { value (Operand.func 25), args := #[t29, const (4010:i64)], argTypes := #[9, 3] }
          have e29 : a1.tmps.getD 29 undef = _ := h29
          have f29 := getD_form e29
          clear h29
          go_simp; go_at_call 25; (with_reducible refine (C2.out _).mono ?_); rintro e w2 ⟨rfl, rfl⟩; exact left_intro rfl (Stp.refl _) trivial
        refine ⟨?_, ?_⟩
        · rintro L a1 w1 hT - - ⟨h7, -⟩   -- 7: Op.fieldAddr 26 t7 2
          have e7 : a1.tmps.getD 7 undef = _ := h7
          have f7 := getD_form e7
          clear h7
          go_simp; exact left_intro rfl (Stp.refl _) trivial
        refine ⟨?_, ?_⟩
        · rintro L a1 w1 hT - - ⟨h31, -⟩   -- 8: Op.load 4 t31
          have e31 : a1.tmps.getD 31 undef = _ := h31
          have f31 := getD_form e31
          clear h31
          have c := (X1.at_ hT).cellv (i := 2) rfl
          go_simp; exact left_intro rfl (Stp.refl _) trivial
        refine ⟨?_, ?_⟩
        · rintro L a1 w1 hT - - ⟨h27, h30, h32, -⟩   -- 9: Op.build 26 #[(0, t27), (1, t30), (2, t32)]
          have e27 : a1.tmps.getD 27 undef = _ := h27
          have f27 := getD_form e27
          have e30 : a1.tmps.getD 30 undef = _ := h30
          have f30 := getD_form e30
          have e32 : a1.tmps.getD 32 undef = _ := h32
          have f32 := getD_form e32
          clear h27 h30 h32
          go_simp; exact left_intro rfl (Stp.refl _) trivial
        refine ⟨?_, ?_⟩
        · rintro L a1 w1 hT - - ⟨h33, -⟩   -- 10: Op.buildSlice 23 1 #[(0, t33)]
          have e33 : a1.tmps.getD 33 undef = _ := h33
          have f33 := getD_form e33
          clear h33
          go_simp; exact left_intro (T := Stp) (Ph := fun _ _ _ => True) (blkRow_new _ _ _ _ _) (Stp.alloc _ _) trivial
        trivial
      case hmono => repeat (first | exact trivial | refine ⟨fun _ _ _ _ h => h, ?_⟩ | refine ⟨mono_blkRow _ _ _ _, ?_⟩)
      case hend =>
        intro w2 hT
        rintro _ rfl _ rfl _ rfl _ rfl _ rfl _ rfl _ rfl _ rfl _ rfl _ rfl v34 hb34
        change wpList _ _ _ _ _ _
        simp only [Act.put, List.setIfInBounds_toArray, List.set_cons_succ, List.set_cons_zero, List.drop_succ_cons, List.drop_zero]
        obtain ⟨b, rfl, Bb⟩ := hb34
        have hrow2 := ERow.at_ hrow1 hT
        have hB2 := hB1.trans (hT.mono hB1.size)
        have qx : ∀ (j : Nat) (u : Value), ([enC ⟨kc, vc, gy⟩] : List (List Value)).flatten[j]? = some u → w2.cell? ((⟨b, 0, none⟩ : Addr).add j) = some u := fun j u hj => by
          rw [Addr.add_mid, Bb.cell]
          simpa [enC] using hj
        have ox := one_enC ⟨kc, vc, gy⟩
        go_wp2_with (at_builtin; refine wpList_append_rowN rfl info_en (.tmp 24) (.tmp 34) 23 rfl und_en rfl hrow2 ⟨b, 0, none⟩ 1 1 [enC ⟨kc, vc, gy⟩] rfl rfl (len_enC _) qx ox hlm ?_; intro v3 w3 hrow3 hg3 hr3; have hB3 := below_grown_own hB2 hB2.size hg3 hown; have hown3 := own_later hown hB2.size hr3)
        go_roundw
        case rel => exact ⟨k + 1, rfl, hk3.out.1, hk3.out.2, by rw [htk.out]; exact erow_snoc hrow3, hown3, hB3⟩
        case measure => simp [intOf]; have := hk3.out; omega
    · have hsplit : (decide ((k : Int) < (l.length : Int)) = false ∧ decide (k < l.length) = false) ∨ (decide ((k : Int) < (l.length : Int)) = true ∧ decide (k < l.length) = true ∧ decide ((k : Int) < (n : Int)) = false ∧ decide (k < n) = false) := by
        by_cases h9 : k < l.length
        · exact .inr ⟨decide_eq_true (by omega), decide_eq_true (by omega), decide_eq_false (by omega), decide_eq_false (by omega)⟩
        · exact .inl ⟨decide_eq_false (by omega), decide_eq_false (by omega)⟩
      have hend := Lib.hid (show L.few l n = (l.take k).map L.cutE by
        unfold L.few
        by_cases h9 : k < l.length
        · rw [show n = k by omega]
        · rw [List.take_of_length_le (show l.length ≤ n by omega), List.take_of_length_le (show l.length ≤ k by omega)])
      clear hm
      rcases hsplit with ⟨h1, h2⟩ | ⟨h1, h2, h3, h4⟩
      · go_wp2
        go_ret
        exact ⟨_, rfl, by rw [hend.out]; exact hrow, hown, hB⟩
      · go_wp2
        go_ret
        exact ⟨_, rfl, by rw [hend.out]; exact hrow, hown, hB⟩
end Go.Proofs.Ytnfabofkfnmplaa
