/- The walk of DiskSure. -/
import Derived.Test.YtknkbioalohofaaDkL
import Derived.Test.YtknkbioalohofaaPureDisk2
namespace Go.Proofs.Ytknkbioalohofaa
open Go.RowKit Go.Maps Go.ChangeMaps Go.MapKept Go.WideMaps

namespace D
/-- One file, f. -/
def F1 (fu : Int) (de : Bool) (x : List UInt8) (s : Nat) : Dk := ⟨1048576, fu, de, [⟨[102], x, s⟩]⟩
variable (fu : Int) (x m : List UInt8) (s : Nat)
theorem used_F1 (de : Bool) : used (F1 fu de x s).files = x.length := by simp [F1, used]
theorem room_F1 (h : x.length + m.length ≤ 1048576) (de : Bool) : (m.length : Int) ≤ (F1 fu de x s).room - (used (F1 fu de x s).files : Int) := by
  rw [used_F1]; show (m.length : Int) ≤ 1048576 - (x.length : Int); omega
theorem f1_calm (hf : fu < 0) (h : x.length + m.length ≤ 1048576) : append (F1 fu false x s) [102] m = (F1 fu false (x ++ m) s, 0) := by
  rw [append_old (f := ⟨[102], x, s⟩) rfl rfl rfl (room_F1 fu x m s h false), deed_calm (by exact hf)]; rfl
theorem f1_more (hf : 0 < fu) (h : x.length + m.length ≤ 1048576) : append (F1 fu false x s) [102] m = (F1 (fu - 1) false (x ++ m) s, 0) := by
  rw [append_old (f := ⟨[102], x, s⟩) rfl rfl rfl (room_F1 fu x m s h false), deed_more (by exact hf)]; rfl
theorem f1_last (h : x.length + m.length ≤ 1048576) : append (F1 0 false x s) [102] m = (F1 0 true (x ++ m) s, 10) := by
  rw [append_old (f := ⟨[102], x, s⟩) rfl rfl rfl (room_F1 0 x m s h false), deed_last rfl]; rfl
theorem f1_sync_calm (hf : fu < 0) : sync (F1 fu false x s) [102] = (F1 fu false x x.length, 0) := by
  rw [sync_ok (f := ⟨[102], x, s⟩) rfl rfl (by rw [deed_calm (by exact hf)]), deed_calm (by exact hf)]; rfl
theorem f1_sync_more (hf : 0 < fu) : sync (F1 fu false x s) [102] = (F1 (fu - 1) false x x.length, 0) := by
  rw [sync_ok (f := ⟨[102], x, s⟩) rfl rfl (by rw [deed_more (by exact hf)]), deed_more (by exact hf)]; rfl
theorem f1_sync_last : sync (F1 0 false x s) [102] = (F1 0 true x s, 10) := by
  rw [sync_dies (f := ⟨[102], x, s⟩) rfl rfl (by rw [deed_last rfl]; simp), deed_last rfl]; rfl
theorem f1_sync_dead : sync (F1 fu true x s) [102] = (F1 fu true x s, 10) := sync_dead rfl
theorem f1_crash (keeps : List Int) (de : Bool) (h : s ≤ x.length) : ∃ L, s ≤ L ∧ L ≤ x.length ∧ crash (F1 fu de x s) keeps = F1 (-1) false (x.take L) (x.take L).length := by
  obtain ⟨h1, h2, h3⟩ := crashF_le keeps 0 ⟨[102], x, s⟩ h
  refine ⟨(crashF keeps 0 ⟨[102], x, s⟩).sure, h1, h3, ?_⟩
  show (⟨1048576, -1, false, [crashF keeps 0 ⟨[102], x, s⟩]⟩ : Dk) = ⟨1048576, -1, false, [⟨[102], x.take _, (x.take _).length⟩]⟩
  rw [show (x.take (crashF keeps 0 ⟨[102], x, s⟩).sure).length = (crashF keeps 0 ⟨[102], x, s⟩).sure by rw [List.length_take]; show min (crashF keeps 0 ⟨[102], x, s⟩).sure x.length = _; exact Nat.min_eq_left h3]
  rfl
end D
set_option maxRecDepth 100000 in
set_option maxHeartbeats 8000000 in
theorem dsure_walk (b : List UInt8) (ts : List (List UInt8)) (la lk : List Int) (vt va vk : Value) (w : World) (hT : SRead w vt (ts.map strV)) (hA : IntsAt w va la) (hK : IntsAt w vk lk)
    (hwa : ∀ a ∈ la, -9223372036854775808 ≤ a ∧ a < 9223372036854775808) (hwk : ∀ a ∈ lk, -9223372036854775808 ≤ a ∧ a < 9223372036854775808) :
    Calls Try.prog 9 #[.string ⟨b.toArray⟩, vt, va, vk] w fun e w' => e = .returned (.bool true) ∧ Below w.heap.size w w' := by
  have AW := Lib.hid (fun W => dawake_any W)
  have CB := Lib.hid (fun W => lcut_to b 200 (z := 200) rfl W)
  have hb : (b.take 200).length ≤ 200 := by rw [List.length_take]; omega
  generalize b.take 200 = b1 at *
  have NW := Lib.hid (new_to (M' := ⟨1048576, -1, false, []⟩) 1048576 (by omega) w rfl)
  have A0 := Lib.hid (fun W p (h : DkAt w.heap.size W p ⟨1048576, -1, false, []⟩) => append_to (z := 0) (M' := D.F1 (-1) false b1 0) h [102] b1 (by simp) (by omega) (by show 0 + b1.length ≤ _; omega) (by rw [D.append_new rfl rfl rfl (by show (b1.length : Int) ≤ 1048576 - ((0 : Nat) : Int); omega) (by show 0 < 4096; omega)]; rfl) (by rw [D.append_new rfl rfl rfl (by show (b1.length : Int) ≤ 1048576 - ((0 : Nat) : Int); omega) (by show 0 < 4096; omega)]; rfl))
  have S0 := Lib.hid (fun W p (h : DkAt w.heap.size W p (D.F1 (-1) false b1 0)) => sync_to (z := 0) (M' := D.F1 (-1) false b1 b1.length) h [102] (by simp) rfl rfl)
  obtain ⟨At, ct, rfl, hct, hcellt⟩ := hT
  have hlm : (ts.map strV).length = ts.length := List.length_map _
  rw [hlm] at hct ⊢
  obtain ⟨Aa, ca, rfl, hca, hcella⟩ := hA
  have hlma : (la.map fun a => Value.int .i64 a).length = la.length := List.length_map _
  rw [hlma] at hca ⊢
  go_enter Try.func9, Try.ntmps9
  go_wp2_with (first | (go_at_call 19; (with_reducible refine (CB.out _).mono ?_); rintro e w2 ⟨rfl, rfl⟩) | (go_at_call 37; (with_reducible refine (NW.out).mono ?_); rintro e w1 ⟨p, rfl, k1, s1⟩) | (go_at_call 38; (with_reducible refine (A0.out _ _ k1).mono ?_); rintro e w2 ⟨rfl, k2, s2⟩) | (go_at_call 39; (with_reducible refine (S0.out _ _ k2).mono ?_); rintro e w3 ⟨rfl, k3, s3⟩))
  have hB3 : Below w.heap.size w w3 := s1.trans (s2.below.trans s3.below)
  clear s1 s2 s3 k1 k2 A0 S0 NW CB
  go_loopw [10, 11, 12] (fun u v i wr => ∃ (k : Nat) (x : List UInt8), u = .string ⟨x.toArray⟩ ∧ v = .string ⟨x.toArray⟩ ∧ i = .int .i64 (k : Int) ∧ k ≤ ts.length ∧ k ≤ 20 ∧ x.length ≤ 200 + 100 * k ∧ DkAt w.heap.size wr p (D.F1 (-1) false x x.length) ∧ Below w.heap.size w wr) (fun _ _ i _ => 20 - (intOf i).toNat)
  case atStart => exact ⟨0, b1, rfl, rfl, rfl, by omega, by omega, by omega, k3, hB3⟩
  case round =>
    clear k3 hB3 hb
    obtain ⟨k, x, rfl, rfl, rfl, hk1, hk2, hxl, k1, s1⟩ := hrel
    have j0 : (0 : Int) ≤ (k : Int) := by omega
    by_cases hmore : k < ts.length ∧ k < 20
    · obtain ⟨hm1, hm2⟩ := hmore
      have d2 : decide ((k : Int) < (ts.length : Int)) = true := decide_eq_true (by omega)
      have d2' : decide (k < ts.length) = true := decide_eq_true (by omega)
      have d3 : decide ((k : Int) < 20) = true := decide_eq_true (by omega)
      have j1 : (k : Int) < (ts.length : Int) := by omega
      obtain ⟨t, ht⟩ : ∃ t, ts[k]? = some t := ⟨_, List.getElem?_eq_getElem hm1⟩
      obtain ⟨g, o, rfl, hg, hcl⟩ : ∃ g o, At = some ⟨g, o, none⟩ ∧ g < w.heap.size ∧ ∀ j u, (ts.map strV)[j]? = some u → w.cell? ⟨g, o + j, none⟩ = some u := by
        rcases hcellt with e | e
        · exfalso
          have h9 : ts.length = 0 := by rw [← hlm, e]; rfl
          omega
        · exact e
      have cT : wr.cell? ⟨g, o + k, none⟩ = some (.string ⟨t.toArray⟩) := (s1.cell (p := ⟨g, o + k, none⟩) hg).trans (hcl k _ (by rw [List.getElem?_map, ht]; rfl))
      have cTW : ∀ W, Below w.heap.size w W → W.cell? ⟨g, o + k, none⟩ = some (.string ⟨t.toArray⟩) := fun W hW => (hW.cell (p := ⟨g, o + k, none⟩) hg).trans (hcl k _ (by rw [List.getElem?_map, ht]; rfl))
      have CU := Lib.hid (fun W => lcut_to t 100 (z := 100) rfl W)
      have htk : (t.take 100).length ≤ 100 := by rw [List.length_take]; omega
      have hw1 : IntKind.i64.wrap ((k : Int) + 1) = ((k + 1 : Nat) : Int) := by rw [IntWalk.i64_in _ (by omega)]; omega
      have FW := Lib.hid (fun W (hW : Below w.heap.size w W) => few_to lk vk W (ints_at hK (Nat.le_refl _) hW) 10 (by omega) (by omega) (z := 10) rfl)
      have hadd := fun W => str_add x (t.take 100) (by omega) W
      have hq : (x ++ t.take 100).length = x.length + (t.take 100).length := List.length_append
      have hxz := str_size x
      clear hcl hcellt ht
      generalize t.take 100 = m at *
      by_cases harm : k < la.length
      · have e2 : decide ((k : Int) < (la.length : Int)) = true := decide_eq_true (by omega)
        have e2' : decide (k < la.length) = true := decide_eq_true (by omega)
        have j2 : (k : Int) < (la.length : Int) := by omega
        obtain ⟨a, ha⟩ : ∃ a, la[k]? = some a := ⟨_, List.getElem?_eq_getElem harm⟩
        have hwf := hwa a (List.mem_of_getElem? ha)
        obtain ⟨ga, oa, rfl, hga, hcla⟩ : ∃ g o, Aa = some ⟨g, o, none⟩ ∧ g < w.heap.size ∧ ∀ j u, (la.map fun a => Value.int .i64 a)[j]? = some u → w.cell? ⟨g, o + j, none⟩ = some u := by
          rcases hcella with e | e
          · exfalso
            have h9 : la.length = 0 := by rw [← hlma, e]; rfl
            omega
          · exact e
        have cA : wr.cell? ⟨ga, oa + k, none⟩ = some (.int .i64 a) := (s1.cell (p := ⟨ga, oa + k, none⟩) hga).trans (hcla k _ (by rw [List.getElem?_map, ha]; rfl))
        clear hcla hcella ha
        by_cases h1 : a < 0
        · have AR := Lib.hid (arm_to (M' := D.F1 (-1) false x x.length) k1 a hwf (by show ({ (D.F1 (-1) false x x.length) with fuse := max a (-1) } : D.Dk) = _; rw [show max a (-1) = -1 by omega]; rfl))
          have AP := Lib.hid (fun W (h : DkAt w.heap.size W p (D.F1 (-1) false x x.length)) => append_to (z := 0) (M' := D.F1 (-1) false (x ++ m) x.length) h [102] m (by simp) (by omega) (by rw [D.used_F1]; omega) (by rw [D.f1_calm _ _ _ _ (by omega) (by omega)]) (by rw [D.f1_calm _ _ _ _ (by omega) (by omega)]; rfl))
          have SY := Lib.hid (fun W (h : DkAt w.heap.size W p (D.F1 (-1) false (x ++ m) x.length)) => sync_to (z := 0) (M' := D.F1 (-1) false (x ++ m) (x ++ m).length) h [102] (by simp) (by rw [D.f1_sync_calm _ _ _ (by omega)]) (by rw [D.f1_sync_calm _ _ _ (by omega)]; rfl))
          obtain ⟨L, hL1, hL2, hcr⟩ := D.f1_crash (-1) (x ++ m) (x ++ m).length (lk.take 10) false (Nat.le_refl _)
          have CR := Lib.hid (fun W v (h : DkAt w.heap.size W p (D.F1 (-1) false (x ++ m) ((x ++ m).length))) hk => crash_to (M' := D.F1 (-1) false ((x ++ m).take L) ((x ++ m).take L).length) h (lk.take 10) v (by rw [List.length_take]; omega) (fun a ha => hwk a (List.mem_of_mem_take ha)) hk (by rw [D.used_F1]; omega) hcr)
          obtain ⟨y, hy⟩ : ∃ y, y = (x ++ m).take L := ⟨_, rfl⟩
          rw [← hy] at CR
          have hyl : y.length = L := by rw [hy, List.length_take]; omega
          have RD := Lib.hid (fun W (h : DkAt w.heap.size W p (D.F1 (-1) false y y.length)) => read_to (s := y) (z := 0) h [102] (by simp) rfl rfl)
          have DE := Lib.hid (fun W (h : DkAt w.heap.size W p (D.F1 (-1) false y y.length)) => dead_any h)
          rw [show (D.F1 (-1) false y y.length).dead = false from rfl] at DE
          have hsl : ∀ W, (Instr.slice 9 (.string ⟨(x ++ m).toArray⟩) none (some (.int .i64 (y.length : Int))) none).run Try.prog W = .ok (.string ⟨y.toArray⟩) W := fun W => by
            have := str_upto_ (x ++ m) y.length (y.length : Int) rfl (by omega) W
            rwa [show (x ++ m).take y.length = y by rw [hyl, hy]] at this
          have hyz := str_size y
          have hqz := str_size (x ++ m)
          have c1 : decide ((y.length : Int) < ((x ++ m).length : Int)) = false := decide_eq_false (by omega)
          have c1' : decide (y.length < (x ++ m).length) = false := decide_eq_false (by omega)
          have c2 : decide (((x ++ m).length : Int) < (y.length : Int)) = false := decide_eq_false (by omega)
          have c2' : decide ((x ++ m).length < y.length) = false := decide_eq_false (by omega)
          have hyb : y.length ≤ 200 + 100 * (k + 1) := by omega
          clear hy hyl hq hcr hL1 hL2
          generalize x ++ m = q at *
          go_wp2_with (first | (go_at_call 40; (with_reducible refine AR.out.mono ?_); rintro e w2 ⟨rfl, k2, s2⟩; have hW2 := s1.trans s2.below; have cT2 := cTW w2 hW2) | (go_at_call 19; (with_reducible refine (CU.out _).mono ?_); rintro e w9 ⟨rfl, rfl⟩) | (go_at_call 38; (with_reducible refine (AP.out _ k2).mono ?_); rintro e w3 ⟨rfl, k3, s3⟩) | (go_at_call 39; (with_reducible refine (SY.out _ k3).mono ?_); rintro e w4 ⟨rfl, k4, s4⟩; have hW4 := hW2.trans (s3.below.trans s4.below)) | (go_at_call 42; (with_reducible refine (FW.out _ hW4).mono ?_); rintro e w5 ⟨v5, rfl, r5, s5⟩; have k5 := k4.at_ s5; have hk5 := row_ints (B := w.heap.size) r5) | (go_at_call 41; (with_reducible refine (CR.out _ _ k5 hk5).mono ?_); rintro e w6 ⟨rfl, k6, s6⟩) | (go_at_call 43; (with_reducible refine (RD.out _ k6).mono ?_); rintro e w9 ⟨rfl, rfl⟩) | (go_at_call 44; (with_reducible refine (DE.out _ k6).mono ?_); rintro e w9 ⟨rfl, rfl⟩))
          go_roundw
          case rel => exact ⟨k + 1, y, rfl, rfl, rfl, by omega, by omega, hyb, k6, hW4.trans ((s5.mono hW4.size).trans s6.below)⟩
          case measure => simp [intOf]; omega
        · by_cases h2 : a = 0
          · have AR := Lib.hid (arm_to (M' := D.F1 0 false x x.length) k1 a hwf (by show ({ (D.F1 (-1) false x x.length) with fuse := max a (-1) } : D.Dk) = _; rw [show max a (-1) = 0 by omega]; rfl))
            have AP := Lib.hid (fun W (h : DkAt w.heap.size W p (D.F1 0 false x x.length)) => append_to (z := 10) (M' := D.F1 0 true (x ++ m) x.length) h [102] m (by simp) (by omega) (by rw [D.used_F1]; omega) (by rw [D.f1_last _ _ _ (by omega)]) (by rw [D.f1_last _ _ _ (by omega)]; rfl))
            have SY := Lib.hid (fun W (h : DkAt w.heap.size W p (D.F1 0 true (x ++ m) x.length)) => sync_to (z := 10) (M' := D.F1 0 true (x ++ m) x.length) h [102] (by simp) (by rw [D.f1_sync_dead]) (by rw [D.f1_sync_dead]; rfl))
            obtain ⟨L, hL1, hL2, hcr⟩ := D.f1_crash 0 (x ++ m) x.length (lk.take 10) true (by omega)
            clear h2 h1
            have CR := Lib.hid (fun W v (h : DkAt w.heap.size W p (D.F1 (0) true (x ++ m) (x.length))) hk => crash_to (M' := D.F1 (-1) false ((x ++ m).take L) ((x ++ m).take L).length) h (lk.take 10) v (by rw [List.length_take]; omega) (fun a ha => hwk a (List.mem_of_mem_take ha)) hk (by rw [D.used_F1]; omega) hcr)
            obtain ⟨y, hy⟩ : ∃ y, y = (x ++ m).take L := ⟨_, rfl⟩
            rw [← hy] at CR
            have hyl : y.length = L := by rw [hy, List.length_take]; omega
            have RD := Lib.hid (fun W (h : DkAt w.heap.size W p (D.F1 (-1) false y y.length)) => read_to (s := y) (z := 0) h [102] (by simp) rfl rfl)
            have DE := Lib.hid (fun W (h : DkAt w.heap.size W p (D.F1 (-1) false y y.length)) => dead_any h)
            rw [show (D.F1 (-1) false y y.length).dead = false from rfl] at DE
            have hsl : ∀ W, (Instr.slice 9 (.string ⟨(x ++ m).toArray⟩) none (some (.int .i64 (y.length : Int))) none).run Try.prog W = .ok (.string ⟨y.toArray⟩) W := fun W => by
              have := str_upto_ (x ++ m) y.length (y.length : Int) rfl (by omega) W
              rwa [show (x ++ m).take y.length = y by rw [hyl, hy]] at this
            have hyz := str_size y
            have hqz := str_size (x ++ m)
            have c1 : decide ((y.length : Int) < ((x).length : Int)) = false := decide_eq_false (by omega)
            have c1' : decide (y.length < (x).length) = false := decide_eq_false (by omega)
            have c2 : decide (((x ++ m).length : Int) < (y.length : Int)) = false := decide_eq_false (by omega)
            have c2' : decide ((x ++ m).length < y.length) = false := decide_eq_false (by omega)
            have hyb : y.length ≤ 200 + 100 * (k + 1) := by omega
            clear hy hyl hq hcr hL1 hL2
            generalize x ++ m = q at *
            go_wp2_with (first | (go_at_call 40; (with_reducible refine AR.out.mono ?_); rintro e w2 ⟨rfl, k2, s2⟩; have hW2 := s1.trans s2.below; have cT2 := cTW w2 hW2) | (go_at_call 19; (with_reducible refine (CU.out _).mono ?_); rintro e w9 ⟨rfl, rfl⟩) | (go_at_call 38; (with_reducible refine (AP.out _ k2).mono ?_); rintro e w3 ⟨rfl, k3, s3⟩) | (go_at_call 39; (with_reducible refine (SY.out _ k3).mono ?_); rintro e w4 ⟨rfl, k4, s4⟩; have hW4 := hW2.trans (s3.below.trans s4.below)) | (go_at_call 42; (with_reducible refine (FW.out _ hW4).mono ?_); rintro e w5 ⟨v5, rfl, r5, s5⟩; have k5 := k4.at_ s5; have hk5 := row_ints (B := w.heap.size) r5) | (go_at_call 41; (with_reducible refine (CR.out _ _ k5 hk5).mono ?_); rintro e w6 ⟨rfl, k6, s6⟩) | (go_at_call 43; (with_reducible refine (RD.out _ k6).mono ?_); rintro e w9 ⟨rfl, rfl⟩) | (go_at_call 44; (with_reducible refine (DE.out _ k6).mono ?_); rintro e w9 ⟨rfl, rfl⟩))
            go_roundw
            case rel => exact ⟨k + 1, y, rfl, rfl, rfl, by omega, by omega, hyb, k6, hW4.trans ((s5.mono hW4.size).trans s6.below)⟩
            case measure => simp [intOf]; omega
          · by_cases h3 : a = 1
            · have AR := Lib.hid (arm_to (M' := D.F1 1 false x x.length) k1 a hwf (by show ({ (D.F1 (-1) false x x.length) with fuse := max a (-1) } : D.Dk) = _; rw [show max a (-1) = 1 by omega]; rfl))
              have AP := Lib.hid (fun W (h : DkAt w.heap.size W p (D.F1 1 false x x.length)) => append_to (z := 0) (M' := D.F1 0 false (x ++ m) x.length) h [102] m (by simp) (by omega) (by rw [D.used_F1]; omega) (by rw [D.f1_more _ _ _ _ (by omega) (by omega)]; rfl) (by rw [D.f1_more _ _ _ _ (by omega) (by omega)]; rfl))
              have SY := Lib.hid (fun W (h : DkAt w.heap.size W p (D.F1 0 false (x ++ m) x.length)) => sync_to (z := 10) (M' := D.F1 0 true (x ++ m) x.length) h [102] (by simp) (by rw [D.f1_sync_last]) (by rw [D.f1_sync_last]; rfl))
              obtain ⟨L, hL1, hL2, hcr⟩ := D.f1_crash 0 (x ++ m) x.length (lk.take 10) true (by omega)
              clear h3 h2 h1
              have CR := Lib.hid (fun W v (h : DkAt w.heap.size W p (D.F1 (0) true (x ++ m) (x.length))) hk => crash_to (M' := D.F1 (-1) false ((x ++ m).take L) ((x ++ m).take L).length) h (lk.take 10) v (by rw [List.length_take]; omega) (fun a ha => hwk a (List.mem_of_mem_take ha)) hk (by rw [D.used_F1]; omega) hcr)
              obtain ⟨y, hy⟩ : ∃ y, y = (x ++ m).take L := ⟨_, rfl⟩
              rw [← hy] at CR
              have hyl : y.length = L := by rw [hy, List.length_take]; omega
              have RD := Lib.hid (fun W (h : DkAt w.heap.size W p (D.F1 (-1) false y y.length)) => read_to (s := y) (z := 0) h [102] (by simp) rfl rfl)
              have DE := Lib.hid (fun W (h : DkAt w.heap.size W p (D.F1 (-1) false y y.length)) => dead_any h)
              rw [show (D.F1 (-1) false y y.length).dead = false from rfl] at DE
              have hsl : ∀ W, (Instr.slice 9 (.string ⟨(x ++ m).toArray⟩) none (some (.int .i64 (y.length : Int))) none).run Try.prog W = .ok (.string ⟨y.toArray⟩) W := fun W => by
                have := str_upto_ (x ++ m) y.length (y.length : Int) rfl (by omega) W
                rwa [show (x ++ m).take y.length = y by rw [hyl, hy]] at this
              have hyz := str_size y
              have hqz := str_size (x ++ m)
              have c1 : decide ((y.length : Int) < ((x).length : Int)) = false := decide_eq_false (by omega)
              have c1' : decide (y.length < (x).length) = false := decide_eq_false (by omega)
              have c2 : decide (((x ++ m).length : Int) < (y.length : Int)) = false := decide_eq_false (by omega)
              have c2' : decide ((x ++ m).length < y.length) = false := decide_eq_false (by omega)
              have hyb : y.length ≤ 200 + 100 * (k + 1) := by omega
              clear hy hyl hq hcr hL1 hL2
              generalize x ++ m = q at *
              go_wp2_with (first | (go_at_call 40; (with_reducible refine AR.out.mono ?_); rintro e w2 ⟨rfl, k2, s2⟩; have hW2 := s1.trans s2.below; have cT2 := cTW w2 hW2) | (go_at_call 19; (with_reducible refine (CU.out _).mono ?_); rintro e w9 ⟨rfl, rfl⟩) | (go_at_call 38; (with_reducible refine (AP.out _ k2).mono ?_); rintro e w3 ⟨rfl, k3, s3⟩) | (go_at_call 39; (with_reducible refine (SY.out _ k3).mono ?_); rintro e w4 ⟨rfl, k4, s4⟩; have hW4 := hW2.trans (s3.below.trans s4.below)) | (go_at_call 42; (with_reducible refine (FW.out _ hW4).mono ?_); rintro e w5 ⟨v5, rfl, r5, s5⟩; have k5 := k4.at_ s5; have hk5 := row_ints (B := w.heap.size) r5) | (go_at_call 41; (with_reducible refine (CR.out _ _ k5 hk5).mono ?_); rintro e w6 ⟨rfl, k6, s6⟩) | (go_at_call 43; (with_reducible refine (RD.out _ k6).mono ?_); rintro e w9 ⟨rfl, rfl⟩) | (go_at_call 44; (with_reducible refine (DE.out _ k6).mono ?_); rintro e w9 ⟨rfl, rfl⟩))
              go_roundw
              case rel => exact ⟨k + 1, y, rfl, rfl, rfl, by omega, by omega, hyb, k6, hW4.trans ((s5.mono hW4.size).trans s6.below)⟩
              case measure => simp [intOf]; omega
            · have AR := Lib.hid (arm_to (M' := D.F1 a false x x.length) k1 a hwf (by show ({ (D.F1 (-1) false x x.length) with fuse := max a (-1) } : D.Dk) = _; rw [show max a (-1) = a by omega]; rfl))
              have AP := Lib.hid (fun W (h : DkAt w.heap.size W p (D.F1 a false x x.length)) => append_to (z := 0) (M' := D.F1 (a - 1) false (x ++ m) x.length) h [102] m (by simp) (by omega) (by rw [D.used_F1]; omega) (by rw [D.f1_more _ _ _ _ (by omega) (by omega)]) (by rw [D.f1_more _ _ _ _ (by omega) (by omega)]; rfl))
              have SY := Lib.hid (fun W (h : DkAt w.heap.size W p (D.F1 (a - 1) false (x ++ m) x.length)) => sync_to (z := 0) (M' := D.F1 (a - 1 - 1) false (x ++ m) (x ++ m).length) h [102] (by simp) (by rw [D.f1_sync_more _ _ _ (by omega)]) (by rw [D.f1_sync_more _ _ _ (by omega)]; rfl))
              obtain ⟨L, hL1, hL2, hcr⟩ := D.f1_crash (a - 1 - 1) (x ++ m) (x ++ m).length (lk.take 10) false (Nat.le_refl _)
              have CR := Lib.hid (fun W v (h : DkAt w.heap.size W p (D.F1 (a - 1 - 1) false (x ++ m) ((x ++ m).length))) hk => crash_to (M' := D.F1 (-1) false ((x ++ m).take L) ((x ++ m).take L).length) h (lk.take 10) v (by rw [List.length_take]; omega) (fun a ha => hwk a (List.mem_of_mem_take ha)) hk (by rw [D.used_F1]; omega) hcr)
              obtain ⟨y, hy⟩ : ∃ y, y = (x ++ m).take L := ⟨_, rfl⟩
              rw [← hy] at CR
              have hyl : y.length = L := by rw [hy, List.length_take]; omega
              have RD := Lib.hid (fun W (h : DkAt w.heap.size W p (D.F1 (-1) false y y.length)) => read_to (s := y) (z := 0) h [102] (by simp) rfl rfl)
              have DE := Lib.hid (fun W (h : DkAt w.heap.size W p (D.F1 (-1) false y y.length)) => dead_any h)
              rw [show (D.F1 (-1) false y y.length).dead = false from rfl] at DE
              have hsl : ∀ W, (Instr.slice 9 (.string ⟨(x ++ m).toArray⟩) none (some (.int .i64 (y.length : Int))) none).run Try.prog W = .ok (.string ⟨y.toArray⟩) W := fun W => by
                have := str_upto_ (x ++ m) y.length (y.length : Int) rfl (by omega) W
                rwa [show (x ++ m).take y.length = y by rw [hyl, hy]] at this
              have hyz := str_size y
              have hqz := str_size (x ++ m)
              have c1 : decide ((y.length : Int) < ((x ++ m).length : Int)) = false := decide_eq_false (by omega)
              have c1' : decide (y.length < (x ++ m).length) = false := decide_eq_false (by omega)
              have c2 : decide (((x ++ m).length : Int) < (y.length : Int)) = false := decide_eq_false (by omega)
              have c2' : decide ((x ++ m).length < y.length) = false := decide_eq_false (by omega)
              have hyb : y.length ≤ 200 + 100 * (k + 1) := by omega
              clear hy hyl hq hcr hL1 hL2
              generalize x ++ m = q at *
              go_wp2_with (first | (go_at_call 40; (with_reducible refine AR.out.mono ?_); rintro e w2 ⟨rfl, k2, s2⟩; have hW2 := s1.trans s2.below; have cT2 := cTW w2 hW2) | (go_at_call 19; (with_reducible refine (CU.out _).mono ?_); rintro e w9 ⟨rfl, rfl⟩) | (go_at_call 38; (with_reducible refine (AP.out _ k2).mono ?_); rintro e w3 ⟨rfl, k3, s3⟩) | (go_at_call 39; (with_reducible refine (SY.out _ k3).mono ?_); rintro e w4 ⟨rfl, k4, s4⟩; have hW4 := hW2.trans (s3.below.trans s4.below)) | (go_at_call 42; (with_reducible refine (FW.out _ hW4).mono ?_); rintro e w5 ⟨v5, rfl, r5, s5⟩; have k5 := k4.at_ s5; have hk5 := row_ints (B := w.heap.size) r5) | (go_at_call 41; (with_reducible refine (CR.out _ _ k5 hk5).mono ?_); rintro e w6 ⟨rfl, k6, s6⟩) | (go_at_call 43; (with_reducible refine (RD.out _ k6).mono ?_); rintro e w9 ⟨rfl, rfl⟩) | (go_at_call 44; (with_reducible refine (DE.out _ k6).mono ?_); rintro e w9 ⟨rfl, rfl⟩))
              go_roundw
              case rel => exact ⟨k + 1, y, rfl, rfl, rfl, by omega, by omega, hyb, k6, hW4.trans ((s5.mono hW4.size).trans s6.below)⟩
              case measure => simp [intOf]; omega
      · have e2 : decide ((k : Int) < (la.length : Int)) = false := decide_eq_false (by omega)
        have e2' : decide (k < la.length) = false := decide_eq_false (by omega)
        have AP := Lib.hid (fun W (h : DkAt w.heap.size W p (D.F1 (-1) false x x.length)) => append_to (z := 0) (M' := D.F1 (-1) false (x ++ m) x.length) h [102] m (by simp) (by omega) (by rw [D.used_F1]; omega) (by rw [D.f1_calm _ _ _ _ (by omega) (by omega)]) (by rw [D.f1_calm _ _ _ _ (by omega) (by omega)]; rfl))
        have SY := Lib.hid (fun W (h : DkAt w.heap.size W p (D.F1 (-1) false (x ++ m) x.length)) => sync_to (z := 0) (M' := D.F1 (-1) false (x ++ m) (x ++ m).length) h [102] (by simp) (by rw [D.f1_sync_calm _ _ _ (by omega)]) (by rw [D.f1_sync_calm _ _ _ (by omega)]; rfl))
        obtain ⟨L, hL1, hL2, hcr⟩ := D.f1_crash (-1) (x ++ m) (x ++ m).length (lk.take 10) false (Nat.le_refl _)
        have k2 := k1
        have s2 : DStp w.heap.size wr wr := DStp.refl _ _
        have hW2 := s1
        have CR := Lib.hid (fun W v (h : DkAt w.heap.size W p (D.F1 (-1) false (x ++ m) ((x ++ m).length))) hk => crash_to (M' := D.F1 (-1) false ((x ++ m).take L) ((x ++ m).take L).length) h (lk.take 10) v (by rw [List.length_take]; omega) (fun a ha => hwk a (List.mem_of_mem_take ha)) hk (by rw [D.used_F1]; omega) hcr)
        obtain ⟨y, hy⟩ : ∃ y, y = (x ++ m).take L := ⟨_, rfl⟩
        rw [← hy] at CR
        have hyl : y.length = L := by rw [hy, List.length_take]; omega
        have RD := Lib.hid (fun W (h : DkAt w.heap.size W p (D.F1 (-1) false y y.length)) => read_to (s := y) (z := 0) h [102] (by simp) rfl rfl)
        have DE := Lib.hid (fun W (h : DkAt w.heap.size W p (D.F1 (-1) false y y.length)) => dead_any h)
        rw [show (D.F1 (-1) false y y.length).dead = false from rfl] at DE
        have hsl : ∀ W, (Instr.slice 9 (.string ⟨(x ++ m).toArray⟩) none (some (.int .i64 (y.length : Int))) none).run Try.prog W = .ok (.string ⟨y.toArray⟩) W := fun W => by
          have := str_upto_ (x ++ m) y.length (y.length : Int) rfl (by omega) W
          rwa [show (x ++ m).take y.length = y by rw [hyl, hy]] at this
        have hyz := str_size y
        have hqz := str_size (x ++ m)
        have c1 : decide ((y.length : Int) < ((x ++ m).length : Int)) = false := decide_eq_false (by omega)
        have c1' : decide (y.length < (x ++ m).length) = false := decide_eq_false (by omega)
        have c2 : decide (((x ++ m).length : Int) < (y.length : Int)) = false := decide_eq_false (by omega)
        have c2' : decide ((x ++ m).length < y.length) = false := decide_eq_false (by omega)
        have hyb : y.length ≤ 200 + 100 * (k + 1) := by omega
        clear hy hyl hq hcr hL1 hL2
        generalize x ++ m = q at *
        go_wp2_with (first | (go_at_call 40; (with_reducible refine AR.out.mono ?_); rintro e w2 ⟨rfl, k2, s2⟩; have hW2 := s1.trans s2.below; have cT2 := cTW w2 hW2) | (go_at_call 19; (with_reducible refine (CU.out _).mono ?_); rintro e w9 ⟨rfl, rfl⟩) | (go_at_call 38; (with_reducible refine (AP.out _ k2).mono ?_); rintro e w3 ⟨rfl, k3, s3⟩) | (go_at_call 39; (with_reducible refine (SY.out _ k3).mono ?_); rintro e w4 ⟨rfl, k4, s4⟩; have hW4 := hW2.trans (s3.below.trans s4.below)) | (go_at_call 42; (with_reducible refine (FW.out _ hW4).mono ?_); rintro e w5 ⟨v5, rfl, r5, s5⟩; have k5 := k4.at_ s5; have hk5 := row_ints (B := w.heap.size) r5) | (go_at_call 41; (with_reducible refine (CR.out _ _ k5 hk5).mono ?_); rintro e w6 ⟨rfl, k6, s6⟩) | (go_at_call 43; (with_reducible refine (RD.out _ k6).mono ?_); rintro e w9 ⟨rfl, rfl⟩) | (go_at_call 44; (with_reducible refine (DE.out _ k6).mono ?_); rintro e w9 ⟨rfl, rfl⟩))
        go_roundw
        case rel => exact ⟨k + 1, y, rfl, rfl, rfl, by omega, by omega, hyb, k6, hW4.trans ((s5.mono hW4.size).trans s6.below)⟩
        case measure => simp [intOf]; omega
    · have hsplit : (decide ((k : Int) < (ts.length : Int)) = false ∧ decide (k < ts.length) = false) ∨ (decide ((k : Int) < (ts.length : Int)) = true ∧ decide (k < ts.length) = true ∧ decide ((k : Int) < 20) = false ∧ decide (k < 20) = false) := by
        by_cases h9 : k < ts.length
        · exact .inr ⟨decide_eq_true (by omega), decide_eq_true (by omega), decide_eq_false (by omega), decide_eq_false (by omega)⟩
        · exact .inl ⟨decide_eq_false (by omega), decide_eq_false (by omega)⟩
      clear hmore hcellt
      rcases hsplit with ⟨h1, h2⟩ | ⟨h1, h2, h3, h4⟩
      · go_wp2_with (go_at_call 45; (with_reducible refine (AW.out _).mono ?_); rintro e w9 ⟨rfl, s9⟩)
        go_ret
        exact ⟨rfl, s1.trans (s9.mono s1.size)⟩
      · go_wp2_with (go_at_call 45; (with_reducible refine (AW.out _).mono ?_); rintro e w9 ⟨rfl, s9⟩)
        go_ret
        exact ⟨rfl, s1.trans (s9.mono s1.size)⟩
end Go.Proofs.Ytknkbioalohofaa
