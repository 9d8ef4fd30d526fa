/- The walk of level.Pick. -/
import Derived.Test.YtnfabofkfnmplaaLvJ
import Derived.Test.YtnfabofkfnmplaaLvF
import Derived.Test.YtnfabofkfnmplaaLvE
namespace Go.Proofs.Ytnfabofkfnmplaa
open Go.RowKit

namespace L
theorem jobOk0 (s : St) (h : atL s 0 ≠ []) : JobOk s (job s 0 (atL s 0)) := ⟨rfl, h, Nat.zero_le _, .inl ⟨rfl, rfl⟩⟩
theorem jobOk1 (s : St) {i : Nat} {o : Fi} (h1 : 1 ≤ i) (h2 : i ≤ 2) (h : o ∈ atL s i) : JobOk s (job s i [o]) := ⟨rfl, by simp [job], h2, .inr ⟨h1, o, h, rfl⟩⟩
end L
theorem size_jb : (Try.prog.info? 39).map (·.size) = some 3 := by kernel_rfl
set_option maxRecDepth 100000 in
set_option maxHeartbeats 8000000 in
theorem pick_any (s : L.St) (sv : Value) (cnt sz : Nat) (w : World) (h : FRead w sv s.files) (hG : L.Good s) (hl : s.files.length ≤ 1000) (hc1 : 1 ≤ cnt) (hc2 : cnt ≤ 8) (hs1 : 1 ≤ sz) (hs2 : sz ≤ 2000) :
    Calls Try.prog 8 #[stV s sv, .agg #[.int .i64 (cnt : Int), .int .i64 (sz : Int)]] w fun e w' => (e = .returned (.tuple #[jbV 0 (.slice none 0 0) (.slice none 0 0), .bool false]) ∨ ∃ j uf ut, L.JobOk s j ∧ e = .returned (.tuple #[jbV j.lev uf ut, .bool true]) ∧ Row1 w' 3 uf (j.from_.map fun f => intV f.num) ∧ Row1 w' 3 ut (j.to_.map fun f => intV f.num)) ∧ Below w.heap.size w w' := by
  obtain ⟨S, sc, rfl, -, h⟩ := fread_open h
  have CH := Lib.hid (fun W (hW : Below w.heap.size w W) => check_ok s _ W (h.at_ hW) hG)
  have AT := Lib.hid (fun i W (hW : Below w.heap.size w W) => at_any s i _ W (h.at_ hW) hl)
  have JB := Lib.hid (fun i fr fv W (hW : Below w.heap.size w W) hf hfl hn h0 => job_any s _ fv i fr W (h.at_ hW) hf hl hfl hn h0)
  have hA : ∀ i, (L.atL s i).length ≤ 1000 := fun i => Nat.le_trans (List.length_filter_le _ _) hl
  have J0 := Lib.hid (L.jobOk0 s)
  have J1 := Lib.hid (fun (i : Nat) (o : L.Fi) => @L.jobOk1 s i o)
  clear hG
  unfold stV at *
  generalize s.next = nx at *
  generalize s.log = lg at *
  have hA := Lib.hid hA
  have d1 : decide ((cnt : Int) < 1) = false := decide_eq_false (by omega)
  have d2 : decide ((sz : Int) < 1) = false := decide_eq_false (by omega)
  have d3 : decide ((1073741824 : Int) < (sz : Int)) = false := decide_eq_false (by omega)
  obtain ⟨B0, B1, B2, hB⟩ := three_new w #[.int .i64 (nx : Int), .int .i64 (lg : Int), .slice S s.files.length sc] #[.int .i64 (cnt : Int), .int .i64 (sz : Int)] #[.int .i64 0, .slice none 0 0, .slice none 0 0] 29 43 39 _ rfl
  obtain ⟨x0, x1, x2, -, -, -⟩ := free3 B0
  clear h
  go_enter Try.func8, Try.ntmps8
  go_wp2_with (go_at_call 13; refine (CH.out _ hB).mono ?_; rintro e w2 ⟨rfl, hb2⟩; have B0a := B0.at_ hb2; have B1a := B1.at_ hb2; have B2a := B2.at_ hb2; have hB2 := hB.trans (hb2.mono hB.size); obtain ⟨y0, y1, y2, -, -, -⟩ := free3 B0a; have l0 := B1a.cellv (i := 0) (v := .int .i64 (cnt : Int)) rfl; have l1 := B1a.cellv (i := 1) (v := .int .i64 (sz : Int)) rfl)
  go_upto_region 4 with (go_at_call 19; refine (AT.out 0 _ hB2).mono ?_; rintro e w3 ⟨v6, rfl, hr6, -, hb3⟩; obtain ⟨A6, m6, c6, rfl, hm6, hr6⟩ := frow_open hr6; replace hm6 := Lib.hid hm6; have B0b := B0a.at_ hb3; have B1b := B1a.at_ hb3; have B2b := B2a.at_ hb3; have hB3 := hB2.trans (hb3.mono hB2.size))
  clear B0 B1 B2 hB x0 x1 x2 y0 y1 y2 l0 l1 hb2 hb3 hB2 B0a B1a B2a d1 d2 d3 CH
  refine wp_world fun W3 hW3 => ?_
  rw [← hW3] at B0b B1b B2b hB3 hr6
  clear hW3
  have l2 := B1b.cellv (i := 0) (v := .int .i64 (cnt : Int)) rfl
  obtain ⟨z0, z1, z2, -, -, -⟩ := free3 B0b
  have l3 := B1b.cellv (i := 1) (v := .int .i64 (sz : Int)) rfl
  obtain ⟨t0, t1, t2, s0, s1, s2⟩ := free3 B2b
  by_cases hc : cnt ≤ m6
  · have e1 : decide ((cnt : Int) ≤ (m6 : Int)) = true := decide_eq_true (by omega)
    have e1' : decide (cnt ≤ m6) = true := decide_eq_true hc
    have h0 : L.atL s 0 ≠ [] := by
      intro e9
      have := hm6.out
      rw [e9] at this
      simp at this
      omega
    have JJ := Lib.hid (J0.out h0)
    have J := Lib.hid (JB.out 0 _ _ _ hB3 hr6.reads (hA.out 0) (by omega) h0)
    clear h0 hc
    go_wp2_with (go_at_call 20; refine J.out.mono ?_; rintro e w4 ⟨uf, ut, rfl, hru, hrt, hb4⟩; obtain ⟨Au, mu, cu, rfl⟩ := row1_form hru; obtain ⟨At, mt, ct, rfl⟩ := row1_form hrt; unfold jbV; have B2c := B2b.at_ hb4; have hB4 := hB3.trans (hb4.mono hB3.size); obtain ⟨t0, t1, t2, s0, s1, s2⟩ := free3 B2c; obtain ⟨b2, o2⟩ := put3 B2c (.int .i64 0) (.slice Au mu cu) (.slice At mt ct) _ rfl; have hru5 := row1_only hru B2c (by decide) o2; have hrt5 := row1_only hrt B2c (by decide) o2; have hB5 := o2.below hB4 (by omega))
    exact bodyPost_ret (v := .tuple #[jbV 0 (.slice Au mu cu) (.slice At mt ct), .bool true]) (results_blk2 (by rfl) _ b2 _ _ (by rfl) (by rfl) Try.underlying39 (by rfl) (by kernel_rfl)) rfl ⟨.inr ⟨_, _, _, JJ.out, rfl, hru5, hrt5⟩, hB5⟩
  · have e1 : decide ((cnt : Int) ≤ (m6 : Int)) = false := decide_eq_false (by omega)
    have e1' : decide (cnt ≤ m6) = false := decide_eq_false hc
    clear hc hr6 hm6 z0 z1 z2
    go_wp2
    clear l2 l3 t0 t1 t2 s0 s1 s2 e1 e1' B1b
    go_loopw [7, 8] (fun a b wr => ∃ (n : Nat) (m : Int), a = .int .i64 m ∧ b = .int .i64 (n : Int) ∧ Hid ((n = 1 ∧ 1 ≤ m ∧ m ≤ 2000) ∨ (n = 2 ∧ 1 ≤ m ∧ m ≤ 16000) ∨ (n = 3 ∧ 1 ≤ m ∧ m ≤ 128000)) ∧ Blk wr w.heap.size #[.int .i64 (nx : Int), .int .i64 (lg : Int), .slice S s.files.length sc] 29 ∧ Blk wr (w.heap.size + 1 + 1) #[.int .i64 0, .slice none 0 0, .slice none 0 0] 39 ∧ Below w.heap.size w wr) (fun _ b _ => 3 - (intOf b).toNat)
    case atStart => exact ⟨1, _, rfl, rfl, Lib.hid (.inl ⟨rfl, by omega, by omega⟩), B0b, B2b, hB3⟩
    case round =>
      clear B0b B2b hB3
      obtain ⟨n, m, rfl, rfl, hnm, B0, B2, hB⟩ := hrel
      by_cases hn : n < 3
      · have d1 : decide ((n : Int) < 3) = true := decide_eq_true (by omega)
        have d1' : decide (n < 3) = true := decide_eq_true hn
        have hwn : IntKind.i64.wrap ((n : Int) + 1) = ((n + 1 : Nat) : Int) := by rw [IntWalk.i64_in _ (by omega)]; omega
        have hwm : IntKind.i64.wrap (m * 8) = m * 8 := IntWalk.i64_in _ (by have := hnm.out; omega)
        have AN := Lib.hid (AT.out n _ hB)
        obtain ⟨z0, z1, z2, -, -, -⟩ := free3 B0
        go_upto_region 11 with (go_at_call 19; refine AN.out.mono ?_; rintro e w4 ⟨v9, rfl, hr9, -, hb4⟩; obtain ⟨A9, m9, c9, rfl, hm9, hr9⟩ := frow_open hr9; replace hm9 := Lib.hid hm9; have B0a := B0.at_ hb4; have B2a := B2.at_ hb4; have hB4 := hB.trans (hb4.mono hB.size))
        clear hb4 B0 B2 hB z0 z1 z2 AN d1 d1'
        refine wp_world fun W4 hW4 => ?_
        rw [← hW4] at hr9 B0a B2a hB4
        clear hW4
        have hdl : m9 ≤ 1000 := by rw [hm9.out]; exact hA.out n
        have hn := Lib.hid hn
        go_wp2
        go_loopw [10, 54] (fun b i wr => ∃ (k : Nat) (S9 : Int), k ≤ m9 ∧ i = .int .i64 (k : Int) ∧ b = .int .i64 S9 ∧ Hid (k = 0 → S9 = 0) ∧ FRow wr (.slice A9 m9 c9) (L.atL s n) ∧ Blk wr w.heap.size #[.int .i64 (nx : Int), .int .i64 (lg : Int), .slice S s.files.length sc] 29 ∧ Blk wr (w.heap.size + 1 + 1) #[.int .i64 0, .slice none 0 0, .slice none 0 0] 39 ∧ Below w.heap.size w wr) (fun _ i _ => m9 - (intOf i).toNat)
        case atStart => exact ⟨0, 0, Nat.zero_le _, rfl, rfl, Lib.hid (fun _ => rfl), hr9, B0a, B2a, hB4⟩
        case round =>
          clear hr9 B0a B2a hB4
          obtain ⟨k, S9, hk, rfl, rfl, hS, hr9, B0, B2, hB⟩ := hrel
          have q0 : (0 : Int) ≤ (k : Int) := by omega
          by_cases hm : k < m9
          · have d1 : decide ((k : Int) < (m9 : Int)) = true := decide_eq_true (by omega)
            have d1' : decide (k < m9) = true := decide_eq_true hm
            have q1 : (k : Int) < (m9 : Int) := by omega
            have hw1 : IntKind.i64.wrap ((k : Int) + 1) = ((k + 1 : Nat) : Int) := by rw [IntWalk.i64_in _ (by omega)]; omega
            have hk1 := Lib.hid (show k + 1 ≤ m9 by omega)
            obtain ⟨f, hf0⟩ : ∃ f, (L.atL s n)[k]? = some f := ⟨_, List.getElem?_eq_getElem (by have := hm9.out; omega)⟩
            obtain ⟨g, o, rfl, hg, cR⟩ := fread_at hr9.reads hf0
            have cR' : wr.rangeAt g (o + k * 5) [.int .i64 (f.num : Int), .int .i64 (f.lev : Int), .int .i64 (f.size : Int), .string ⟨f.first.toArray⟩, .string ⟨f.last.toArray⟩] := cR
            have hsz : (Try.prog.info? 33).map (·.size) = some [Value.int .i64 (f.num : Int), .int .i64 (f.lev : Int), .int .i64 (f.size : Int), .string ⟨f.first.toArray⟩, .string ⟨f.last.toArray⟩].length := size_fi
            have hr9a := FRow.alloc hr9 (.cells #[.int .i64 (f.num : Int), .int .i64 (f.lev : Int), .int .i64 (f.size : Int), .string ⟨f.first.toArray⟩, .string ⟨f.last.toArray⟩] 33)
            have X1 := Blk.new wr #[.int .i64 (f.num : Int), .int .i64 (f.lev : Int), .int .i64 (f.size : Int), .string ⟨f.first.toArray⟩, .string ⟨f.last.toArray⟩] 33
            have B0a := B0.alloc (.cells #[.int .i64 (f.num : Int), .int .i64 (f.lev : Int), .int .i64 (f.size : Int), .string ⟨f.first.toArray⟩, .string ⟨f.last.toArray⟩] 33)
            have B2a := B2.alloc (.cells #[.int .i64 (f.num : Int), .int .i64 (f.lev : Int), .int .i64 (f.size : Int), .string ⟨f.first.toArray⟩, .string ⟨f.last.toArray⟩] 33)
            have hB1 := hB.alloc hB.size (.cells #[.int .i64 (f.num : Int), .int .i64 (f.lev : Int), .int .i64 (f.size : Int), .string ⟨f.first.toArray⟩, .string ⟨f.last.toArray⟩] 33)
            obtain ⟨⟨-, -, x2, -, -⟩, -⟩ := free5 X1
            clear cR hf0 hg
            go_wp2_with (refine wpList_load_mid rfl 33 (.tmp 56) rfl g (o + k * 5) rfl _ _ cR' Try.underlying33 rfl hsz ?_; go_frame)
            go_roundw
            case rel => exact ⟨k + 1, _, hk1.out, rfl, rfl, Lib.hid (fun e => absurd e (Nat.succ_ne_zero _)), hr9a, B0a, B2a, hB1⟩
            case measure => simp [intOf]; have := hk1.out; omega
          · have d1 : decide ((k : Int) < (m9 : Int)) = false := decide_eq_false (by omega)
            have d1' : decide (k < m9) = false := decide_eq_false hm
            by_cases hms : m < S9
            · have d2 : decide (m < S9) = true := decide_eq_true hms
              have h0 : L.atL s n ≠ [] := by
                intro e9
                have h9 := hm9.out
                rw [e9] at h9
                have h8 := hS.out (by simp at h9; omega)
                have := hnm.out
                omega
              have MF := Lib.hid (minf_any (L.atL s n) _ wr hr9.reads (hA.out n) h0)
              obtain ⟨z0, z1, z2, -, -, -⟩ := free3 B0
              clear hS h0 hms hm hk
              go_upto_region 18 with (go_at_call 21; refine MF.out.mono ?_; rintro e w5 ⟨o, ho, rfl, hb5⟩; unfold fiV; have X1 := Blk.new w5 #[.int .i64 (o.num : Int), .int .i64 (o.lev : Int), .int .i64 (o.size : Int), .string ⟨o.first.toArray⟩, .string ⟨o.last.toArray⟩] 33; have B0a := (B0.at_ hb5).alloc (.cells #[.int .i64 (o.num : Int), .int .i64 (o.lev : Int), .int .i64 (o.size : Int), .string ⟨o.first.toArray⟩, .string ⟨o.last.toArray⟩] 33); have B2a := (B2.at_ hb5).alloc (.cells #[.int .i64 (o.num : Int), .int .i64 (o.lev : Int), .int .i64 (o.size : Int), .string ⟨o.first.toArray⟩, .string ⟨o.last.toArray⟩] 33); have hBa := (hB.trans (hb5.mono hB.size)); have hBb := hBa.alloc hBa.size (.cells #[.int .i64 (o.num : Int), .int .i64 (o.lev : Int), .int .i64 (o.size : Int), .string ⟨o.first.toArray⟩, .string ⟨o.last.toArray⟩] 33))
              refine wp_world fun W5 hW5 => ?_
              rw [← hW5] at X1 B0a B2a hBb
              clear hW5 hr9 B0 B2 hB hBa hb5 MF z0 z1 z2
              generalize w5.heap.size = g5 at *
              obtain ⟨z0, z1, z2, -, -, -⟩ := free3 B0a
              obtain ⟨⟨x0, x1, x2, x3, x4⟩, -⟩ := free5 X1
              have hf9 : FRow (W5.alloc (.cells #[.int .i64 (o.num : Int), .int .i64 (o.lev : Int), .int .i64 (o.size : Int), .string ⟨o.first.toArray⟩, .string ⟨o.last.toArray⟩] 33)) (.slice (some ⟨W5.heap.size, 0, none⟩) 1 1) [o] := RowN.build W5 _ 5 [fiC o] _ 1 rfl (len_fiC o) rfl (by omega)
              have B2b := B2a.alloc (.cells #[.int .i64 (o.num : Int), .int .i64 (o.lev : Int), .int .i64 (o.size : Int), .string ⟨o.first.toArray⟩, .string ⟨o.last.toArray⟩] 33)
              have hBc := hBb.alloc hBb.size (.cells #[.int .i64 (o.num : Int), .int .i64 (o.lev : Int), .int .i64 (o.size : Int), .string ⟨o.first.toArray⟩, .string ⟨o.last.toArray⟩] 33)
              have J := Lib.hid (JB.out n [o] _ _ hBc hf9.reads (by simp) (by have := hn.out; omega) (by simp))
              have JJ := Lib.hid (J1.out n o (by have := hnm.out; omega) (by have := hn.out; omega) ho)
              clear ho
              go_wp2_with (go_at_call 20; refine J.out.mono ?_; rintro e w6 ⟨uf, ut, rfl, hru, hrt, hb6⟩; obtain ⟨Au, mu, cu, rfl⟩ := row1_form hru; obtain ⟨At, mt, ct, rfl⟩ := row1_form hrt; unfold jbV; have B2c := B2b.at_ hb6; have hB4 := hBc.trans (hb6.mono hBc.size); obtain ⟨t0, t1, t2, s0, s1, s2⟩ := free3 B2c; obtain ⟨b2, o2⟩ := put3 B2c (.int .i64 (n : Int)) (.slice Au mu cu) (.slice At mt ct) _ rfl; have hru5 := row1_only hru B2c (by decide) o2; have hrt5 := row1_only hrt B2c (by decide) o2; have hB5 := o2.below hB4 (by omega))
              exact bodyPost_ret (v := .tuple #[jbV n (.slice Au mu cu) (.slice At mt ct), .bool true]) (results_blk2 (by rfl) _ b2 _ _ (by rfl) (by rfl) Try.underlying39 (by rfl) (by kernel_rfl)) rfl ⟨.inr ⟨_, _, _, JJ.out, rfl, hru5, hrt5⟩, hB5⟩
            · have d2 : decide (m < S9) = false := decide_eq_false hms
              go_wp2
              go_roundw
              case rel => exact ⟨n + 1, m * 8, rfl, rfl, Lib.hid (by have := hnm.out; have := hn.out; omega), B0, B2, hB⟩
              case measure => simp [intOf]; have := hn.out; omega
      · have d1 : decide ((n : Int) < 3) = false := decide_eq_false (by omega)
        have d1' : decide (n < 3) = false := decide_eq_false hn
        obtain ⟨t0, t1, t2, s0, s1, s2⟩ := free3 B2
        obtain ⟨b2, o2⟩ := put3 B2 (.int .i64 0) (.slice none 0 0) (.slice none 0 0) _ rfl
        have hB5 := o2.below hB (by omega)
        go_wp2
        exact bodyPost_ret (v := .tuple #[jbV 0 (.slice none 0 0) (.slice none 0 0), .bool false]) (results_blk2 (by rfl) _ b2 _ _ (by rfl) (by rfl) Try.underlying39 (by rfl) (by kernel_rfl)) rfl ⟨.inl rfl, hB5⟩
end Go.Proofs.Ytnfabofkfnmplaa
