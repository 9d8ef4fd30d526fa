/- The walk of a state's job. -/
import Derived.Test.YtnfabofkfnmplaaLvKb
import Derived.Deep.Cut
namespace Go.Proofs.Ytnfabofkfnmplaa
open Go.RowKit

theorem three_new (w : World) (a b c : Array Value) (s t u : TypeId) : ∀ W, W = ((w.alloc (.cells a s)).alloc (.cells b t)).alloc (.cells c u) → Blk W w.heap.size a s ∧ Blk W (w.heap.size + 1) b t ∧ Blk W (w.heap.size + 1 + 1) c u ∧ Below w.heap.size w W := by
  rintro _ rfl
  obtain ⟨A, B, hB⟩ := two_new w a b s t
  have h := Blk.new ((w.alloc (.cells a s)).alloc (.cells b t)) c u
  rw [World.size_alloc, World.size_alloc] at h
  exact ⟨A.alloc _, B.alloc _, h, hB.alloc hB.size _⟩
theorem row1_form {w : World} {e : TypeId} {v : Value} {xs : List Value} (h : Row1 w e v xs) : ∃ A m c, v = .slice A m c := by
  rcases h.form with ⟨rfl, _⟩ | ⟨g, cap, rfl, _⟩
  · exact ⟨_, _, _, rfl⟩
  · exact ⟨_, _, _, rfl⟩
/-- A slice of the call's own, behind a store into an older block. -/
theorem row1_far {w w' : World} {e : TypeId} {v : Value} {xs : List Value} {g n : Nat} (h : Row1 w e v xs) (ho : Only g w w') (hv : v.ownBlock = none ∨ ∃ k, n ≤ k ∧ v.ownBlock = some k) (hg : g < n) : Row1 w' e v xs := by
  refine h.kept fun k hk => ho.block k ?_
  rcases hv with e1 | ⟨j, hj, e1⟩
  · rw [e1] at hk; cases hk
  · rw [e1] at hk; injection hk with hk; omega
theorem row1_only {w w' : World} {e : TypeId} {v : Value} {xs : List Value} {g : Nat} {cs : Array Value} {t : TypeId} (h : Row1 w e v xs) (hb : Blk w g cs t) (ht : e ≠ t) (ho : Only g w w') : Row1 w' e v xs :=
  h.kept fun k hk => ho.block k (by rintro rfl; obtain ⟨c, hc⟩ := h.blk hk; exact ht (blk_type_ne hc hb))
theorem frow_only {w w' : World} {v : Value} {l : List L.Fi} {g : Nat} {cs : Array Value} {t : TypeId} (h : FRow w v l) (hb : Blk w g cs t) (ht : 33 ≠ t) (ho : Only g w w') : FRow w' v l := RowN.only h hb ht ho
/-- A block below stays, whatever a slice above takes. -/
theorem not_own {v : Value} {n x : Nat} (hv : v.ownBlock = none ∨ ∃ k, n ≤ k ∧ v.ownBlock = some k) (hx : x < n) : some x ≠ v.ownBlock := by
  intro e
  rcases hv with e1 | ⟨j, hj, e1⟩
  · rw [e1] at e; cases e
  · rw [e1] at e; injection e with e; omega
theorem own_less {v : Value} {n m : Nat} (h : n ≤ m) (hv : v.ownBlock = none ∨ ∃ k, m ≤ k ∧ v.ownBlock = some k) : v.ownBlock = none ∨ ∃ k, n ≤ k ∧ v.ownBlock = some k := hv.imp id fun ⟨k, h1, h2⟩ => ⟨k, Nat.le_trans h h1, h2⟩
theorem take_num {l : List L.Fi} {k : Nat} {f : L.Fi} (h : l[k]? = some f) : (l.take (k + 1)).map (fun f => intV f.num) = (l.take k).map (fun f => intV f.num) ++ [intV f.num] := by
  obtain ⟨h1, h2⟩ := List.getElem?_eq_some_iff.1 h
  rw [List.take_succ_eq_append_getElem h1, List.map_append, h2]
  rfl
theorem take_fil {l : List L.Fi} {k : Nat} {f : L.Fi} (p : L.Fi → Bool) (h : l[k]? = some f) : ((l.take (k + 1)).filter p).map (fun f => intV f.num) = ((l.take k).filter p).map (fun f => intV f.num) ++ if p f = true then [intV f.num] else [] := by
  obtain ⟨h1, h2⟩ := List.getElem?_eq_some_iff.1 h
  rw [List.take_succ_eq_append_getElem h1, List.filter_append, List.map_append, h2]
  congr 1
  rw [List.filter_cons]
  split <;> rfl
set_option maxRecDepth 100000 in
set_option maxHeartbeats 8000000 in
theorem job_any (s : L.St) (sv fv : Value) (n : Nat) (fr : List L.Fi) (w : World) (h : FRead w sv s.files) (hf : FRead w fv fr) (hl : s.files.length ≤ 1000) (hfl : fr.length ≤ 1000) (hn : n ≤ 10) (h0 : fr ≠ []) :
    Calls Try.prog 20 #[stV s sv, .int .i64 (n : Int), fv] w fun e w' => ∃ uf ut, e = .returned (jbV n uf ut) ∧ Row1 w' 3 uf (fr.map fun f => intV f.num) ∧ Row1 w' 3 ut (((L.atL s (n + 1)).filter (L.meets (L.span fr))).map fun f => intV f.num) ∧ Below w.heap.size w w' := by
  obtain ⟨A, c, rfl, -, hf⟩ := fread_open hf
  obtain ⟨S, sc, rfl, -, h⟩ := fread_open h
  have SP := Lib.hid (fun W (hW : Below w.heap.size w W) => span_any fr _ W (hf.at_ hW) hfl h0)
  have AT := Lib.hid (fun W (hW : Below w.heap.size w W) => at_any s (n + 1) _ W (h.at_ hW) hl)
  have hDP : (L.atL s (n + 1)).length ≤ 1000 := Nat.le_trans (List.length_filter_le _ _) hl
  generalize L.atL s (n + 1) = DP at *
  obtain ⟨nx, lg, l⟩ := s
  dsimp only at h hl SP AT ⊢
  unfold stV at *
  dsimp only at *
  have hwn : IntKind.i64.wrap ((n : Int) + 1) = ((n + 1 : Nat) : Int) := by rw [IntWalk.i64_in _ (by omega)]; omega
  obtain ⟨B0, B1, B2, hB⟩ := three_new w #[.int .i64 (nx : Int), .int .i64 (lg : Int), .slice S l.length sc] #[.int .i64 0, .slice none 0 0, .slice none 0 0] #[.int .i64 (n : Int), .slice none 0 0, .slice none 0 0] 29 39 39 _ rfl
  clear h
  go_enter Try.func20, Try.ntmps20
  go_wp2_with (go_at_call 32; refine (SP.out _ hB).mono ?_; rintro e w2 ⟨a, rfl, ha, hb2⟩; unfold fiV; have B0a := (B0.at_ hb2).alloc (.cells #[.int .i64 (a.num : Int), .int .i64 (a.lev : Int), .int .i64 (a.size : Int), .string ⟨a.first.toArray⟩, .string ⟨a.last.toArray⟩] 33); have B1a := (B1.at_ hb2).alloc (.cells #[.int .i64 (a.num : Int), .int .i64 (a.lev : Int), .int .i64 (a.size : Int), .string ⟨a.first.toArray⟩, .string ⟨a.last.toArray⟩] 33); have hlt2 := (B2.at_ hb2).lt; have B2a := (B2.at_ hb2).alloc (.cells #[.int .i64 (a.num : Int), .int .i64 (a.lev : Int), .int .i64 (a.size : Int), .string ⟨a.first.toArray⟩, .string ⟨a.last.toArray⟩] 33); have X3 := Blk.new w2 #[.int .i64 (a.num : Int), .int .i64 (a.lev : Int), .int .i64 (a.size : Int), .string ⟨a.first.toArray⟩, .string ⟨a.last.toArray⟩] 33; have hBa := (hB.trans (hb2.mono hB.size)); have hBb := hBa.alloc hBa.size (.cells #[.int .i64 (a.num : Int), .int .i64 (a.lev : Int), .int .i64 (a.size : Int), .string ⟨a.first.toArray⟩, .string ⟨a.last.toArray⟩] 33))
  refine wp_world fun W3 hW3 => ?_
  rw [← hW3] at B0a B1a B2a X3 hBb
  clear hW3 B0 B1 B2 hB hBa hb2 SP
  generalize w2.heap.size = g3 at *
  have hg3 : g3 < W3.heap.size := X3.lt
  obtain ⟨N0, hN0⟩ : ∃ N0, W3.heap.size = N0 := ⟨_, rfl⟩
  rw [hN0] at hg3
  have hN0 := Lib.hid (Nat.le_of_eq hN0.symm)
  have hlt3 : w.heap.size + 1 + 1 < N0 := by omega
  go_loopw [19] (fun i wr => ∃ (k : Nat) (u : Value), k ≤ fr.length ∧ i = .int .i64 (k : Int) ∧ Row1 wr 3 u ((fr.take k).map fun f => intV f.num) ∧ (u.ownBlock = none ∨ ∃ j, N0 ≤ j ∧ u.ownBlock = some j) ∧ Hid (N0 ≤ wr.heap.size) ∧ Blk wr w.heap.size #[.int .i64 (nx : Int), .int .i64 (lg : Int), .slice S l.length sc] 29 ∧ Blk wr (w.heap.size + 1) #[.int .i64 0, .slice none 0 0, .slice none 0 0] 39 ∧ Blk wr (w.heap.size + 1 + 1) #[.int .i64 (n : Int), u, .slice none 0 0] 39 ∧ Blk wr g3 #[.int .i64 (a.num : Int), .int .i64 (a.lev : Int), .int .i64 (a.size : Int), .string ⟨a.first.toArray⟩, .string ⟨a.last.toArray⟩] 33 ∧ Below w.heap.size w wr) (fun i _ => fr.length - (intOf i).toNat)
  case atStart => exact ⟨0, _, Nat.zero_le _, rfl, Row1.nil _ _, .inl rfl, hN0, B0a, B1a, B2a, X3, hBb⟩
  case round =>
    clear B0a B1a B2a X3 hBb hN0
    obtain ⟨k, u, hk, rfl, hrow, hown, hN, B0, B1, B2, B3, hB⟩ := hrel
    have q0 : (0 : Int) ≤ (k : Int) := by omega
    by_cases hm : k < fr.length
    · have d1 : decide ((k : Int) < (fr.length : Int)) = true := decide_eq_true (by omega)
      have d1' : decide (k < fr.length) = true := decide_eq_true hm
      have q1 : (k : Int) < (fr.length : Int) := by omega
      have hw1 : IntKind.i64.wrap ((k : Int) + 1) = ((k + 1 : Nat) : Int) := by rw [IntWalk.i64_in _ (by omega)]; omega
      have hk1 := Lib.hid (show k + 1 ≤ fr.length by omega)
      obtain ⟨f, hf0⟩ : ∃ f, fr[k]? = some f := ⟨_, List.getElem?_eq_getElem hm⟩
      obtain ⟨g, o, rfl, hg, cR⟩ := fread_at (hf.at_ hB) hf0
      have htk := Lib.hid (take_num hf0)
      have hxl : ((fr.take k).map fun f => intV f.num).length ≤ 1000 := by rw [List.length_map, List.length_take]; omega
      generalize ((fr.take k).map fun f => intV f.num) = acc at *
      have cR' : wr.rangeAt g (o + k * 5) [.int .i64 (f.num : Int), .int .i64 (f.lev : Int), .int .i64 (f.size : Int), .string ⟨f.first.toArray⟩, .string ⟨f.last.toArray⟩] := cR
      have hsz : (Try.prog.info? 33).map (·.size) = some [Value.int .i64 (f.num : Int), .int .i64 (f.lev : Int), .int .i64 (f.size : Int), .string ⟨f.first.toArray⟩, .string ⟨f.last.toArray⟩].length := size_fi
      have hrow1 := hrow.alloc (.cells #[.int .i64 (f.num : Int), .int .i64 (f.lev : Int), .int .i64 (f.size : Int), .string ⟨f.first.toArray⟩, .string ⟨f.last.toArray⟩] 33)
      have X1 := Blk.new wr #[.int .i64 (f.num : Int), .int .i64 (f.lev : Int), .int .i64 (f.size : Int), .string ⟨f.first.toArray⟩, .string ⟨f.last.toArray⟩] 33
      have B0a := B0.alloc (.cells #[.int .i64 (f.num : Int), .int .i64 (f.lev : Int), .int .i64 (f.size : Int), .string ⟨f.first.toArray⟩, .string ⟨f.last.toArray⟩] 33)
      have B1a := B1.alloc (.cells #[.int .i64 (f.num : Int), .int .i64 (f.lev : Int), .int .i64 (f.size : Int), .string ⟨f.first.toArray⟩, .string ⟨f.last.toArray⟩] 33)
      have B2a := B2.alloc (.cells #[.int .i64 (f.num : Int), .int .i64 (f.lev : Int), .int .i64 (f.size : Int), .string ⟨f.first.toArray⟩, .string ⟨f.last.toArray⟩] 33)
      have B3a := B3.alloc (.cells #[.int .i64 (f.num : Int), .int .i64 (f.lev : Int), .int .i64 (f.size : Int), .string ⟨f.first.toArray⟩, .string ⟨f.last.toArray⟩] 33)
      have hB1 := hB.alloc hB.size (.cells #[.int .i64 (f.num : Int), .int .i64 (f.lev : Int), .int .i64 (f.size : Int), .string ⟨f.first.toArray⟩, .string ⟨f.last.toArray⟩] 33)
      have hN1 : N0 ≤ (wr.alloc (.cells #[.int .i64 (f.num : Int), .int .i64 (f.lev : Int), .int .i64 (f.size : Int), .string ⟨f.first.toArray⟩, .string ⟨f.last.toArray⟩] 33)).heap.size := by rw [World.size_alloc]; exact Nat.le_succ_of_le hN.out
      clear cR hf0 hg
      go_upto_region 6 with (refine wpList_load_mid rfl 33 (.tmp 21) rfl g (o + k * 5) rfl _ _ cR' Try.underlying33 rfl hsz ?_; go_frame)
      refine wp_world fun W1 hW1 => ?_
      rw [← hW1] at hrow1 X1 B0a B1a B2a B3a hB1 hN1
      clear hW1 cR' hsz d1 d1' q1 hB B0 B1 B2 B3 hrow
      obtain ⟨⟨x0, -, -, -, -⟩, -⟩ := free5 X1
      obtain ⟨z0, z1, z2, -, -, -⟩ := free3 B2a
      have r2 := hrow1.alloc (.cells #[.int .i64 (f.num : Int)] 3)
      have hB2 := hB1.alloc hB1.size (.cells #[.int .i64 (f.num : Int)] 3)
      have B0b := B0a.alloc (.cells #[.int .i64 (f.num : Int)] 3)
      have B1b := B1a.alloc (.cells #[.int .i64 (f.num : Int)] 3)
      have B2b := B2a.alloc (.cells #[.int .i64 (f.num : Int)] 3)
      have B3b := B3a.alloc (.cells #[.int .i64 (f.num : Int)] 3)
      have qx := new_cells W1 [intV f.num] _ rfl 3
      have ox := int_one [f.num]
      have hN2 : N0 ≤ (W1.alloc (.cells #[.int .i64 (f.num : Int)] 3)).heap.size := by rw [World.size_alloc]; exact Nat.le_succ_of_le hN1
      have hlm : (acc.length + 1) * 8 ≤ 140737488355328 := by omega
      have n0 := not_own hown (show w.heap.size < N0 by omega)
      have n1 := not_own hown (show w.heap.size + 1 < N0 by omega)
      have n2 := not_own hown hlt3
      have n3 := not_own hown hg3
      have hown2 := own_less (show w.heap.size ≤ N0 by omega) hown
      have hne3 : ¬ w.heap.size + 1 + 1 = g3 := by omega
      clear hrow1 B0a B1a B2a B3a hB1 X1
      go_wp2_with (at_builtin; refine wpList_append_row rfl info_int (.tmp 24) (.tmp 27) 37 rfl Try.underlying37 rfl r2 ⟨W1.heap.size, 0, none⟩ 1 1 [intV f.num] rfl rfl qx ox hlm ?_; intro v3 w3 hrow3 hg9 hr3; obtain ⟨A5, m5, c5, rfl⟩ := row1_form hrow3; have hB3 := below_grown_own hB2 hB2.size hg9 hown2; have hown3 := own_later hown hN2 hr3; have B0c := B0b.grown hg9 n0; have B1c := B1b.grown hg9 n1; have B2c := B2b.grown hg9 n2; have B3c := B3b.grown hg9 n3; have hN3 := Nat.le_trans hN2 hg9.size; obtain ⟨y0, y1, y2, s0, s1, s2⟩ := free3 B2c; obtain ⟨B2d, o2⟩ := cell1_3 B2c (.slice A5 m5 c5); have B0d := B0c.only o2 (by omega); have B1d := B1c.only o2 (by omega); have B3d := B3c.only o2 (by omega); have hB4 := o2.below hB3 (by omega); have hrow4 := row1_far hrow3 o2 hown3 hlt3; have hN4 : N0 ≤ (w3.setCell ⟨w.heap.size + 1 + 1, 1, none⟩ (.slice A5 m5 c5)).heap.size := by (rw [o2.size]; exact hN3))
      go_roundw
      case rel => exact ⟨k + 1, .slice A5 m5 c5, hk1.out, rfl, by rw [htk.out]; exact hrow4, hown3, Lib.hid hN4, B0d, B1d, B2d, B3d, hB4⟩
      case measure => simp [intOf]; have := hk1.out; omega
    · have d1 : decide ((k : Int) < (fr.length : Int)) = false := decide_eq_false (by omega)
      have d1' : decide (k < fr.length) = false := decide_eq_false hm
      rw [List.take_of_length_le (by omega)] at hrow
      obtain ⟨z0, z1, z2, -, -, -⟩ := free3 B0
      have hfin := Lib.hid (show (fr.map fun f => intV f.num).length ≤ 1000 by rw [List.length_map]; exact hfl)
      generalize hFN : (fr.map fun f => intV f.num) = FN at *
      have HFN := Lib.hid hFN
      clear hFN
      clear hN hm hk
      go_wp2_with (go_at_call 19; refine (AT.out _ hB).mono ?_; rintro e w4 ⟨v4, rfl, hr4, -, hb4⟩; obtain ⟨A4, m4, c4, rfl, hm4, hr4⟩ := frow_open hr4; replace hm4 := Lib.hid hm4; have B0a := B0.at_ hb4; have B1a := B1.at_ hb4; have B2a := B2.at_ hb4; have B3a := B3.at_ hb4; have hrow4 := hrow.at_ hb4; have hB4 := hB.trans (hb4.mono hB.size))
      clear B0 B1 B2 B3 hrow hB hb4 AT z0 z1 z2 d1 d1' q0
      obtain ⟨Au, mu, cu, rfl⟩ := row1_form hrow4
      have hownu := Lib.hid hown
      have hul : ∀ g, (Value.slice Au mu cu).ownBlock = some g → g < w4.heap.size := fun _ hg => Row1.lt hrow4 hg
      have hvl : ∀ g, (Value.slice A4 m4 c4).ownBlock = some g → g < w4.heap.size := fun _ hg => RowN.lt hr4 hg
      have MT := Lib.hid (fun (f : L.Fi) W => by have h9 := meets_any a f W; rw [ha] at h9; exact h9)
      obtain ⟨N1, hN1⟩ : ∃ N1, w4.heap.size = N1 := ⟨_, rfl⟩
      have hlt4 := B2a.lt
      have hlt5 := B3a.lt
      rw [hN1] at hul hvl hlt4 hlt5
      have hN1 := Lib.hid (Nat.le_of_eq hN1.symm)
      have hul := Lib.hid hul
      have hvl := Lib.hid hvl
      clear ha hf h B0a
      generalize hP : L.meets (L.span fr) = P at *
      have HP := Lib.hid hP
      clear hP
      have hdl : m4 ≤ 1000 := by rw [hm4.out]; exact hDP
      go_loopw [36] (fun i wr => ∃ (k : Nat) (u2 : Value), k ≤ m4 ∧ i = .int .i64 (k : Int) ∧ Row1 wr 3 u2 (((DP.take k).filter P).map fun f => intV f.num) ∧ (u2.ownBlock = none ∨ ∃ j, N1 ≤ j ∧ u2.ownBlock = some j) ∧ Hid (N1 ≤ wr.heap.size) ∧ Row1 wr 3 (.slice Au mu cu) FN ∧ FRow wr (.slice A4 m4 c4) DP ∧ Blk wr (w.heap.size + 1) #[.int .i64 0, .slice none 0 0, .slice none 0 0] 39 ∧ Blk wr (w.heap.size + 1 + 1) #[.int .i64 (n : Int), .slice Au mu cu, u2] 39 ∧ Blk wr g3 #[.int .i64 (a.num : Int), .int .i64 (a.lev : Int), .int .i64 (a.size : Int), .string ⟨a.first.toArray⟩, .string ⟨a.last.toArray⟩] 33 ∧ Below w.heap.size w wr) (fun i _ => m4 - (intOf i).toNat)
      case atStart => exact ⟨0, _, Nat.zero_le _, rfl, Row1.nil _ _, .inl rfl, hN1, hrow4, hr4, B1a, B2a, B3a, hB4⟩
      case round =>
        clear B1a B2a B3a hB4 hN1 hrow4 hr4 hown
        obtain ⟨k, u2, hk, rfl, hrow, hown, hN, hru, hrv, B1, B2, B3, hB⟩ := hrel
        have q0 : (0 : Int) ≤ (k : Int) := by omega
        by_cases hm : k < m4
        · have d1 : decide ((k : Int) < (m4 : Int)) = true := decide_eq_true (by omega)
          have d1' : decide (k < m4) = true := decide_eq_true hm
          have q1 : (k : Int) < (m4 : Int) := by omega
          have hw1 : IntKind.i64.wrap ((k : Int) + 1) = ((k + 1 : Nat) : Int) := by rw [IntWalk.i64_in _ (by omega)]; omega
          have hk1 := Lib.hid (show k + 1 ≤ m4 by omega)
          obtain ⟨f, hf0⟩ : ∃ f, DP[k]? = some f := ⟨_, List.getElem?_eq_getElem (by have := hm4.out; omega)⟩
          obtain ⟨g, o, rfl, hg, cR⟩ := fread_at hrv.reads hf0
          have htk0 := take_fil P hf0
          have hxl : (((DP.take k).filter P).map fun f => intV f.num).length ≤ 1000 := by
            rw [List.length_map]
            have := List.length_filter_le P (DP.take k)
            rw [List.length_take] at this
            omega
          generalize (((DP.take k).filter P).map fun f => intV f.num) = acc at *
          have cR' : wr.rangeAt g (o + k * 5) [.int .i64 (f.num : Int), .int .i64 (f.lev : Int), .int .i64 (f.size : Int), .string ⟨f.first.toArray⟩, .string ⟨f.last.toArray⟩] := cR
          have hsz : (Try.prog.info? 33).map (·.size) = some [Value.int .i64 (f.num : Int), .int .i64 (f.lev : Int), .int .i64 (f.size : Int), .string ⟨f.first.toArray⟩, .string ⟨f.last.toArray⟩].length := size_fi
          have hrow1 := hrow.alloc (.cells #[.int .i64 (f.num : Int), .int .i64 (f.lev : Int), .int .i64 (f.size : Int), .string ⟨f.first.toArray⟩, .string ⟨f.last.toArray⟩] 33)
          have hru1 := hru.alloc (.cells #[.int .i64 (f.num : Int), .int .i64 (f.lev : Int), .int .i64 (f.size : Int), .string ⟨f.first.toArray⟩, .string ⟨f.last.toArray⟩] 33)
          have hrv1 := hrv.alloc (.cells #[.int .i64 (f.num : Int), .int .i64 (f.lev : Int), .int .i64 (f.size : Int), .string ⟨f.first.toArray⟩, .string ⟨f.last.toArray⟩] 33)
          have X1 := Blk.new wr #[.int .i64 (f.num : Int), .int .i64 (f.lev : Int), .int .i64 (f.size : Int), .string ⟨f.first.toArray⟩, .string ⟨f.last.toArray⟩] 33
          have B1a := B1.alloc (.cells #[.int .i64 (f.num : Int), .int .i64 (f.lev : Int), .int .i64 (f.size : Int), .string ⟨f.first.toArray⟩, .string ⟨f.last.toArray⟩] 33)
          have B2a := B2.alloc (.cells #[.int .i64 (f.num : Int), .int .i64 (f.lev : Int), .int .i64 (f.size : Int), .string ⟨f.first.toArray⟩, .string ⟨f.last.toArray⟩] 33)
          have B3a := B3.alloc (.cells #[.int .i64 (f.num : Int), .int .i64 (f.lev : Int), .int .i64 (f.size : Int), .string ⟨f.first.toArray⟩, .string ⟨f.last.toArray⟩] 33)
          have hB1 := hB.alloc hB.size (.cells #[.int .i64 (f.num : Int), .int .i64 (f.lev : Int), .int .i64 (f.size : Int), .string ⟨f.first.toArray⟩, .string ⟨f.last.toArray⟩] 33)
          have hN1 : N1 ≤ (wr.alloc (.cells #[.int .i64 (f.num : Int), .int .i64 (f.lev : Int), .int .i64 (f.size : Int), .string ⟨f.first.toArray⟩, .string ⟨f.last.toArray⟩] 33)).heap.size := by rw [World.size_alloc]; exact Nat.le_succ_of_le hN.out
          clear cR hf0 hg
          go_upto_region 11 with (refine wpList_load_mid rfl 33 (.tmp 38) rfl g (o + k * 5) rfl _ _ cR' Try.underlying33 rfl hsz ?_; go_frame)
          refine wp_world fun W1 hW1 => ?_
          rw [← hW1] at hrow1 hru1 hrv1 X1 B1a B2a B3a hB1 hN1
          clear hW1 cR' hsz d1 d1' q1 hB B1 B2 B3 hrow hru hrv
          obtain ⟨⟨x0, x1, x2, x3, x4⟩, -⟩ := free5 X1
          obtain ⟨⟨t0, t1, t2, t3, t4⟩, -⟩ := free5 B3a
          have M1 := MT.out f W1
          clear MT
          cases hbm : P f with
          | true =>
            rw [hbm] at M1
            rw [hbm, if_pos rfl] at htk0
            have M1 := Lib.hid M1
            have htk := Lib.hid htk0
            clear htk0 hbm
            go_upto_region 12 with (go_at_call 33; refine M1.out.mono ?_; rintro e w5 ⟨rfl, hb5⟩; have X5 := X1.at_ hb5; have B15 := B1a.at_ hb5; have B25 := B2a.at_ hb5; have B35 := B3a.at_ hb5; have hrow5 := hrow1.at_ hb5; have hru5 := hru1.at_ hb5; have hrv5 := FRow.at_ hrv1 hb5; have hB5 := hB1.trans (hb5.mono hB1.size); have hN5 := Nat.le_trans hN1 hb5.size)
            clear hb5 M1 hrow1 hru1 hrv1 X1 B1a B2a B3a hB1 hN1 x0 x1 x2 x3 x4 t0 t1 t2 t3 t4
            refine wp_world fun W6 hW6 => ?_
            replace hW6 := hW6.symm
            subst hW6
            obtain ⟨⟨x0, -, -, -, -⟩, -⟩ := free5 X5
            obtain ⟨z0, z1, z2, -, -, -⟩ := free3 B25
            have r2 := hrow5.alloc (.cells #[.int .i64 (f.num : Int)] 3)
            have hru6 := hru5.alloc (.cells #[.int .i64 (f.num : Int)] 3)
            have hrv6 := hrv5.alloc (.cells #[.int .i64 (f.num : Int)] 3)
            have hB2 := hB5.alloc hB5.size (.cells #[.int .i64 (f.num : Int)] 3)
            have B1b := B15.alloc (.cells #[.int .i64 (f.num : Int)] 3)
            have B2b := B25.alloc (.cells #[.int .i64 (f.num : Int)] 3)
            have B3b := B35.alloc (.cells #[.int .i64 (f.num : Int)] 3)
            have qx := new_cells w5 [intV f.num] _ rfl 3
            have ox := int_one [f.num]
            have hN2 : N1 ≤ (w5.alloc (.cells #[.int .i64 (f.num : Int)] 3)).heap.size := by rw [World.size_alloc]; exact Nat.le_succ_of_le hN5
            have hlm : (acc.length + 1) * 8 ≤ 140737488355328 := by omega
            have n1 := not_own hown (show w.heap.size + 1 < N1 by omega)
            have n2 := not_own hown hlt4
            have n3 := not_own hown hlt5
            have hown2 := own_less (show w.heap.size ≤ N1 by omega) hown
            have hne3 : ¬ w.heap.size + 1 + 1 = g3 := by omega
            clear hrow5 hru5 hrv5 B15 B25 B35 hB5 X5 hN5
            go_wp2_with (at_builtin; refine wpList_append_row rfl info_int (.tmp 44) (.tmp 47) 37 rfl Try.underlying37 rfl r2 ⟨w5.heap.size, 0, none⟩ 1 1 [intV f.num] rfl rfl qx ox hlm ?_; intro v3 w3 hrow3 hg9 hr3; obtain ⟨A5, m5, c5, rfl⟩ := row1_form hrow3; have hB3 := below_grown_own hB2 hB2.size hg9 hown2; have hown3 := own_later hown hN2 hr3; have B1c := B1b.grown hg9 n1; have B2c := B2b.grown hg9 n2; have B3c := B3b.grown hg9 n3; have hN3 := Nat.le_trans hN2 hg9.size; have hru7 := hru6.grown hg9 (fun g hg => Ne.symm (not_own hown (hul.out g hg))); have hrv7 := RowN.grown hrv6 hg9 (fun g hg => Ne.symm (not_own hown (hvl.out g hg))); obtain ⟨y0, y1, y2, s0, s1, s2⟩ := free3 B2c; obtain ⟨B2d, o2⟩ := cell2_3 B2c (.slice A5 m5 c5); have B1d := B1c.only o2 (by omega); have B3d := B3c.only o2 (by omega); have hB4 := o2.below hB3 (by omega); have hrow4 := row1_far hrow3 o2 hown3 hlt4; have hru8 := row1_far hru7 o2 hownu.out hlt3; have hrv8 := frow_only hrv7 B2c (by decide) o2; have hN4 : N1 ≤ (w3.setCell ⟨w.heap.size + 1 + 1, 2, none⟩ (.slice A5 m5 c5)).heap.size := by (rw [o2.size]; exact hN3))
            go_roundw
            case rel => exact ⟨k + 1, .slice A5 m5 c5, hk1.out, rfl, by rw [htk.out]; exact hrow4, hown3, Lib.hid hN4, hru8, hrv8, B1d, B2d, B3d, hB4⟩
            case measure => simp [intOf]; have := hk1.out; omega
          | false =>
            rw [hbm] at M1
            rw [hbm, if_neg (by simp), List.append_nil] at htk0
            have M1 := Lib.hid M1
            have htk := Lib.hid htk0
            clear htk0 hbm
            go_wp2_with (go_at_call 33; refine M1.out.mono ?_; rintro e w5 ⟨rfl, hb5⟩)
            go_roundw
            case rel => exact ⟨k + 1, u2, hk1.out, rfl, by rw [htk.out]; exact hrow1.at_ hb5, hown, Lib.hid (Nat.le_trans hN1 hb5.size), hru1.at_ hb5, FRow.at_ hrv1 hb5, B1a.at_ hb5, B2a.at_ hb5, B3a.at_ hb5, hB1.trans (hb5.mono hB1.size)⟩
            case measure => simp [intOf]; have := hk1.out; omega
        · have d1 : decide ((k : Int) < (m4 : Int)) = false := decide_eq_false (by omega)
          have d1' : decide (k < m4) = false := decide_eq_false hm
          rw [List.take_of_length_le (by have := hm4.out; omega)] at hrow
          obtain ⟨A6, m6, c6, rfl⟩ := row1_form hrow
          obtain ⟨z0, z1, z2, -, -, -⟩ := free3 B2
          obtain ⟨y0, y1, y2, s0, s1, s2⟩ := free3 B1
          obtain ⟨b1, o1⟩ := put3 B1 (.int .i64 (n : Int)) (.slice Au mu cu) (.slice A6 m6 c6) _ rfl
          have hru2 := row1_far hru o1 hownu.out (by omega)
          have hrow2 := row1_far hrow o1 hown (by omega)
          have hB2 := o1.below hB (by omega)
          clear hru hrow hB hN hownu hown
          go_wp2
          exact bodyPost_ret (v := jbV n (.slice Au mu cu) (.slice A6 m6 c6)) (results_blk (by rfl) _ b1 _ (by rfl) Try.underlying39 (by rfl) (by kernel_rfl)) rfl ⟨_, _, rfl, by rw [HFN.out]; exact hru2, by rw [HP.out]; exact hrow2, hB2⟩
end Go.Proofs.Ytnfabofkfnmplaa
