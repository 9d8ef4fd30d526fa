/- The walk of DiskDies. -/
import Derived.Test.YtknkbioalohofaaDkL
import Derived.Test.YtknkbioalohofaaPureDisk2
namespace Go.Proofs.Ytknkbioalohofaa
open Go.RowKit Go.Maps Go.ChangeMaps Go.MapKept Go.WideMaps

namespace D
def oldF (a : List UInt8) : Fl := ⟨[111, 108, 100], a, a.length⟩
def newF (b : List UInt8) (s : Nat) : Fl := ⟨[110, 101, 119], b, s⟩
/-- The disk behind i deeds. -/
def Y (n i : Nat) (a b : List UInt8) : Dk := ⟨10000, (n : Int) - (i : Int), false, match i with | 0 => [oldF a] | 1 => [newF b 0, oldF a] | 2 => [newF b b.length, oldF a] | _ => [oldF b]⟩
/-- The disk that dies at the deed i. -/
def Z (i : Nat) (a b : List UInt8) : Dk := ⟨10000, 0, true, match i with | 0 => [newF b 0, oldF a] | 1 => [newF b 0, oldF a] | _ => [newF b b.length, oldF a]⟩
variable (n : Nat) (a b : List UInt8)
theorem used_Y (i : Nat) : used (Y n i a b).files ≤ a.length + b.length := by
  match i with
  | 0 => simp [Y, used, oldF]
  | 1 => simp [Y, used, oldF, newF]; omega
  | 2 => simp [Y, used, oldF, newF]; omega
  | _ + 3 => simp [Y, used, oldF]
theorem used_Z (i : Nat) : used (Z i a b).files ≤ a.length + b.length := by
  match i with
  | 0 => simp [Z, used, oldF, newF]; omega
  | 1 => simp [Z, used, oldF, newF]; omega
  | _ + 2 => simp [Z, used, oldF, newF]; omega
theorem crash_Z (i : Nat) : ∃ f, crash (Z i a b) [] = ⟨10000, -1, false, [f, oldF a]⟩ ∧ f.name = [110, 101, 119] := by
  have hk : ∀ i n, kOf [] i n = 0 := fun _ _ => rfl
  have ho : ∀ j, crashF [] j (oldF a) = oldF a := fun j => by unfold crashF; rw [hk]; simp [oldF]
  match i with
  | 0 => exact ⟨crashF [] 0 (newF b 0), by show (⟨10000, -1, false, [crashF [] 0 (newF b 0), crashF [] 1 (oldF a)]⟩ : Dk) = _; rw [ho], rfl⟩
  | 1 => exact ⟨crashF [] 0 (newF b 0), by show (⟨10000, -1, false, [crashF [] 0 (newF b 0), crashF [] 1 (oldF a)]⟩ : Dk) = _; rw [ho], rfl⟩
  | _ + 2 => exact ⟨crashF [] 0 (newF b b.length), by show (⟨10000, -1, false, [crashF [] 0 (newF b b.length), crashF [] 1 (oldF a)]⟩ : Dk) = _; rw [ho], rfl⟩
theorem crash_Y3 : crash (Y n 3 a b) [] = ⟨10000, -1, false, [oldF b]⟩ := by
  have ho : crashF [] 0 (oldF b) = oldF b := by unfold crashF; rw [show ∀ i n, kOf [] i n = 0 from fun _ _ => rfl]; simp [oldF]
  show (⟨10000, -1, false, [crashF [] 0 (oldF b)]⟩ : Dk) = _
  rw [ho]
theorem read_Z {f : Fl} (hf : f.name = [110, 101, 119]) : read ⟨10000, -1, false, [f, oldF a]⟩ [111, 108, 100] = (a, 0) := by
  refine read_some (f := oldF a) rfl ?_
  show fnd Fl.name [111, 108, 100] [f, oldF a] = _
  rw [fnd_cons, hf]
  rfl
theorem y0_more (ha : a.length ≤ 100) (hb : b.length ≤ 100) (hn : 0 < n) : append (Y n 0 a b) [110, 101, 119] b = (Y n 1 a b, 0) := by
  rw [append_new rfl rfl rfl (by show (b.length : Int) ≤ 10000 - ((used [oldF a] : Nat) : Int); simp [used, oldF]; omega) (by show 1 < 4096; omega), deed_more (by show 0 < (n : Int) - 0; omega)]
  show ((⟨10000, (n : Int) - 0 - 1, false, [newF b 0, oldF a]⟩, 0) : Dk × Nat) = (⟨10000, (n : Int) - 1, false, [newF b 0, oldF a]⟩, 0)
  rw [Int.sub_zero]
theorem y0_last (ha : a.length ≤ 100) (hb : b.length ≤ 100) : append (Y 0 0 a b) [110, 101, 119] b = (Z 0 a b, 10) := by
  rw [append_new rfl rfl rfl (by show (b.length : Int) ≤ 10000 - ((used [oldF a] : Nat) : Int); simp [used, oldF]; omega) (by show 1 < 4096; omega), deed_last rfl]
  rfl
theorem y1_more (hn : 1 < n) : sync (Y n 1 a b) [110, 101, 119] = (Y n 2 a b, 0) := by
  rw [sync_ok (f := newF b 0) rfl rfl (by rw [deed_more (by show 0 < (n : Int) - 1; omega)]), deed_more (by show 0 < (n : Int) - 1; omega)]
  show ((⟨10000, (n : Int) - 1 - 1, false, [newF b b.length, oldF a]⟩, 0) : Dk × Nat) = (⟨10000, (n : Int) - 2, false, [newF b b.length, oldF a]⟩, 0)
  rw [show (n : Int) - 1 - 1 = (n : Int) - 2 by omega]
theorem y1_last : sync (Y 1 1 a b) [110, 101, 119] = (Z 1 a b, 10) := by
  rw [sync_dies (f := newF b 0) rfl rfl (by rw [deed_last rfl]; simp), deed_last rfl]
  rfl
theorem y2_more (hn : 2 < n) : rename (Y n 2 a b) [110, 101, 119] [111, 108, 100] = (Y n 3 a b, 0) := by
  rw [rename_ok (f := newF b b.length) rfl rfl rfl (by rw [deed_more (by show 0 < (n : Int) - 2; omega)]), deed_more (by show 0 < (n : Int) - 2; omega)]
  show ((⟨10000, (n : Int) - 2 - 1, false, [oldF b]⟩, 0) : Dk × Nat) = (⟨10000, (n : Int) - 3, false, [oldF b]⟩, 0)
  rw [show (n : Int) - 2 - 1 = (n : Int) - 3 by omega]
theorem y2_last : rename (Y 2 2 a b) [110, 101, 119] [111, 108, 100] = (Z 2 a b, 10) := by
  rw [rename_dies (f := newF b b.length) rfl rfl rfl (by rw [deed_last rfl]; simp), deed_last rfl]
  rfl
end D
set_option maxRecDepth 100000 in
set_option maxHeartbeats 8000000 in
theorem ddies_walk (z : Int) (hr : -9223372036854775808 ≤ z ∧ z < 9223372036854775808) (a b : List UInt8) (w : World) :
    Calls Try.prog 11 #[.int .i64 z, .string ⟨a.toArray⟩, .string ⟨b.toArray⟩] w fun e w' => e = .returned (.bool true) ∧ Below w.heap.size w w' := by
  have AW := Lib.hid (fun W => dawake_any W)
  by_cases hout : z < 0 ∨ 8 < z
  · by_cases h0 : z < 0
    · have d0 : decide (z < 0) = true := decide_eq_true h0
      go_enter Try.func11, Try.ntmps11
      go_wp2_with (go_at_call 45; (with_reducible refine (AW.out _).mono ?_); rintro e w1 ⟨rfl, hb⟩)
      go_ret
      exact ⟨rfl, hb⟩
    · have d0 : decide (z < 0) = false := decide_eq_false h0
      have d1 : decide (8 < z) = true := decide_eq_true (by omega)
      go_enter Try.func11, Try.ntmps11
      go_wp2_with (go_at_call 45; (with_reducible refine (AW.out _).mono ?_); rintro e w1 ⟨rfl, hb⟩)
      go_ret
      exact ⟨rfl, hb⟩
  · obtain ⟨n, rfl⟩ : ∃ n : Nat, z = (n : Int) := ⟨z.toNat, by omega⟩
    have hn8 : n ≤ 8 := by omega
    have d0 : decide ((n : Int) < 0) = false := decide_eq_false (by omega)
    have d1 : decide (8 < (n : Int)) = false := decide_eq_false (by omega)
    have CA := Lib.hid (fun W => lcut_to a 100 (z := 100) rfl W)
    have CB := Lib.hid (fun W => lcut_to b 100 (z := 100) rfl W)
    have ha : (a.take 100).length ≤ 100 := by rw [List.length_take]; omega
    have hb : (b.take 100).length ≤ 100 := by rw [List.length_take]; omega
    generalize a.take 100 = a1 at *
    generalize b.take 100 = b1 at *
    have NW := Lib.hid (fun W => new_to (M' := ⟨10000, -1, false, []⟩) 10000 (by omega) W rfl)
    have A0 := Lib.hid (fun W p (h : DkAt w.heap.size W p ⟨10000, -1, false, []⟩) => append_to (z := 0) (M' := ⟨10000, -1, false, [⟨[111, 108, 100], a1, 0⟩]⟩) h [111, 108, 100] a1 (by simp) (by omega) (by show 0 + a1.length ≤ _; omega) (by rw [D.append_new rfl rfl rfl (by show (a1.length : Int) ≤ 10000 - ((0 : Nat) : Int); omega) (by show 0 < 4096; omega)]; rfl) (by rw [D.append_new rfl rfl rfl (by show (a1.length : Int) ≤ 10000 - ((0 : Nat) : Int); omega) (by show 0 < 4096; omega)]; rfl))
    have S0 := Lib.hid (fun W p (h : DkAt w.heap.size W p ⟨10000, -1, false, [⟨[111, 108, 100], a1, 0⟩]⟩) => sync_to (z := 0) (M' := ⟨10000, -1, false, [⟨[111, 108, 100], a1, a1.length⟩]⟩) h [111, 108, 100] (by simp) rfl rfl)
    have R0 := Lib.hid (fun W p (h : DkAt w.heap.size W p ⟨10000, -1, false, [⟨[111, 108, 100], a1, a1.length⟩]⟩) => arm_to (M' := D.Y n 0 a1 b1) h (n : Int) (by omega) (by show (⟨10000, max (n : Int) (-1), false, _⟩ : D.Dk) = ⟨10000, (n : Int) - ((0 : Nat) : Int), false, [D.oldF a1]⟩; rw [show max (n : Int) (-1) = (n : Int) - ((0 : Nat) : Int) by omega]; rfl))
    clear hout
    go_enter Try.func11, Try.ntmps11
    go_wp2_with (first | (go_at_call 19; first | ((with_reducible refine (CA.out _).mono ?_); rintro e w2 ⟨rfl, rfl⟩) | ((with_reducible refine (CB.out _).mono ?_); rintro e w2 ⟨rfl, rfl⟩)) | (go_at_call 37; (with_reducible refine (NW.out _).mono ?_); rintro e w1 ⟨p, rfl, k1, s1⟩) | (go_at_call 38; (with_reducible refine (A0.out _ _ k1).mono ?_); rintro e w2 ⟨rfl, k2, s2⟩) | (go_at_call 39; (with_reducible refine (S0.out _ _ k2).mono ?_); rintro e w3 ⟨rfl, k3, s3⟩) | (go_at_call 40; (with_reducible refine (R0.out _ _ k3).mono ?_); rintro e w4 ⟨rfl, k4, s4⟩))
    have hB4 : Below w.heap.size w w4 := s1.trans (s2.below.trans (s3.below.trans s4.below))
    clear s1 s2 s3 s4 k1 k2 k3
    go_loopw [8, 9] (fun u i wr => ∃ (k : Nat), u = .int .i64 (k : Int) ∧ i = .int .i64 (k : Int) ∧ k ≤ n ∧ k ≤ 3 ∧ DkAt w.heap.size wr p (D.Y n k a1 b1) ∧ Below w.heap.size w wr) (fun _ i _ => 3 - (intOf i).toNat)
    case atStart => exact ⟨0, rfl, rfl, by omega, by omega, k4, hB4⟩
    case round =>
      clear k4 hB4 A0 S0 R0 NW CA CB
      obtain ⟨k, rfl, rfl, hk1, hk2, k1, s1⟩ := hrel
      rcases (show k = 0 ∨ k = 1 ∨ k = 2 ∨ k = 3 by omega) with rfl | rfl | rfl | rfl
      · by_cases hm : 0 < n
        · have OP := Lib.hid (append_to (z := 0) (M' := D.Y n 1 a1 b1) k1 [110, 101, 119] b1 (by simp) (by omega) (by have := D.used_Y n a1 b1 0; omega) (by rw [D.y0_more n a1 b1 ha hb hm]) (by rw [D.y0_more n a1 b1 ha hb hm]; rfl))
          go_wp2_with (go_at_call 38; (with_reducible refine OP.out.mono ?_); rintro e w2 ⟨rfl, k2, s2⟩)
          go_roundw
          case rel => exact ⟨1, rfl, rfl, by omega, by omega, k2, s1.trans s2.below⟩
          case measure => simp [intOf]
        · have hnk : n = 0 := by omega
          have hkey : D.append (D.Y n 0 a1 b1) [110, 101, 119] b1 = (D.Z 0 a1 b1, 10) := by subst hnk; exact D.y0_last a1 b1 ha hb
          have hmin : min (n : Int) 3 = 0 := by omega
          have d5 : decide ((n : Int) < 3) = true := decide_eq_true (by omega)
          have d6 : decide (n < 3) = true := decide_eq_true (by omega)
          have OP := Lib.hid (append_to (z := 10) (M' := D.Z 0 a1 b1) k1 [110, 101, 119] b1 (by simp) (by omega) (by have := D.used_Y n a1 b1 0; omega) (by rw [hkey]) (by rw [hkey]; rfl))
          obtain ⟨f, hcr, hfn⟩ := D.crash_Z a1 b1 0
          have DE := Lib.hid (fun W (h : DkAt w.heap.size W p (D.Z 0 a1 b1)) => dead_any h)
          have CR := Lib.hid (fun W (h : DkAt w.heap.size W p (D.Z 0 a1 b1)) => crash_to (M' := ⟨10000, -1, false, [f, D.oldF a1]⟩) h [] (.slice none 0 0) (by simp) (by simp) (fun w' _ => intsAt_nil w') (by have := D.used_Z a1 b1 0; omega) hcr)
          have RD := Lib.hid (fun W (h : DkAt w.heap.size W p ⟨10000, -1, false, [f, D.oldF a1]⟩) => read_to (s := a1) (z := 0) h [111, 108, 100] (by simp) (by rw [D.read_Z a1 hfn]) (by rw [D.read_Z a1 hfn]; rfl))
          rw [show (D.Z 0 a1 b1).dead = true from rfl] at DE
          clear hcr hfn hm hn8 d0 d1 hk1 hk2 hr hkey hnk
          go_wp2_with (first | (go_at_call 38; (with_reducible refine OP.out.mono ?_); rintro e w2 ⟨rfl, k2, s2⟩) | (first | (go_at_call 44; first | ((with_reducible refine (DE.out _ k2).mono ?_); rintro e w9 ⟨rfl, rfl⟩) | ((with_reducible refine (DE.out).mono ?_); rintro e w9 ⟨rfl, rfl⟩)) | (go_at_call 41; first | ((with_reducible refine (CR.out _ k2).mono ?_); rintro e w3 ⟨rfl, k3, s3⟩) | ((with_reducible refine (CR.out).mono ?_); rintro e w3 ⟨rfl, k3, s3⟩)) | (go_at_call 43; (with_reducible refine (RD.out _ k3).mono ?_); rintro e w9 ⟨rfl, rfl⟩) | (go_at_call 45; (with_reducible refine (AW.out _).mono ?_); rintro e w4 ⟨rfl, s4⟩)))
          go_ret
          exact ⟨rfl, s1.trans (s2.below.trans (s3.below.trans (s4.mono (Nat.le_of_lt k3.lt))))⟩
      · by_cases hm : 1 < n
        · have OP := Lib.hid (sync_to (z := 0) (M' := D.Y n 2 a1 b1) k1 [110, 101, 119] (by simp) (by rw [D.y1_more n a1 b1 hm]) (by rw [D.y1_more n a1 b1 hm]; rfl))
          go_wp2_with (go_at_call 39; (with_reducible refine OP.out.mono ?_); rintro e w2 ⟨rfl, k2, s2⟩)
          go_roundw
          case rel => exact ⟨2, rfl, rfl, by omega, by omega, k2, s1.trans s2.below⟩
          case measure => simp [intOf]
        · have hnk : n = 1 := by omega
          have hkey : D.sync (D.Y n 1 a1 b1) [110, 101, 119] = (D.Z 1 a1 b1, 10) := by subst hnk; exact D.y1_last a1 b1
          have hmin : min (n : Int) 3 = 1 := by omega
          have d5 : decide ((n : Int) < 3) = true := decide_eq_true (by omega)
          have d6 : decide (n < 3) = true := decide_eq_true (by omega)
          have OP := Lib.hid (sync_to (z := 10) (M' := D.Z 1 a1 b1) k1 [110, 101, 119] (by simp) (by rw [hkey]) (by rw [hkey]; rfl))
          obtain ⟨f, hcr, hfn⟩ := D.crash_Z a1 b1 1
          have DE := Lib.hid (fun W (h : DkAt w.heap.size W p (D.Z 1 a1 b1)) => dead_any h)
          have CR := Lib.hid (fun W (h : DkAt w.heap.size W p (D.Z 1 a1 b1)) => crash_to (M' := ⟨10000, -1, false, [f, D.oldF a1]⟩) h [] (.slice none 0 0) (by simp) (by simp) (fun w' _ => intsAt_nil w') (by have := D.used_Z a1 b1 1; omega) hcr)
          have RD := Lib.hid (fun W (h : DkAt w.heap.size W p ⟨10000, -1, false, [f, D.oldF a1]⟩) => read_to (s := a1) (z := 0) h [111, 108, 100] (by simp) (by rw [D.read_Z a1 hfn]) (by rw [D.read_Z a1 hfn]; rfl))
          rw [show (D.Z 1 a1 b1).dead = true from rfl] at DE
          clear hcr hfn hm hn8 d0 d1 hk1 hk2 hr hkey hnk
          go_wp2_with (first | (go_at_call 39; (with_reducible refine OP.out.mono ?_); rintro e w2 ⟨rfl, k2, s2⟩) | (first | (go_at_call 44; first | ((with_reducible refine (DE.out _ k2).mono ?_); rintro e w9 ⟨rfl, rfl⟩) | ((with_reducible refine (DE.out).mono ?_); rintro e w9 ⟨rfl, rfl⟩)) | (go_at_call 41; first | ((with_reducible refine (CR.out _ k2).mono ?_); rintro e w3 ⟨rfl, k3, s3⟩) | ((with_reducible refine (CR.out).mono ?_); rintro e w3 ⟨rfl, k3, s3⟩)) | (go_at_call 43; (with_reducible refine (RD.out _ k3).mono ?_); rintro e w9 ⟨rfl, rfl⟩) | (go_at_call 45; (with_reducible refine (AW.out _).mono ?_); rintro e w4 ⟨rfl, s4⟩)))
          go_ret
          exact ⟨rfl, s1.trans (s2.below.trans (s3.below.trans (s4.mono (Nat.le_of_lt k3.lt))))⟩
      · by_cases hm : 2 < n
        · have OP := Lib.hid (rename_to (z := 0) (M' := D.Y n 3 a1 b1) k1 [110, 101, 119] [111, 108, 100] (by simp) (by simp) (by rw [D.y2_more n a1 b1 hm]) (by rw [D.y2_more n a1 b1 hm]; rfl))
          go_wp2_with (go_at_call 48; (with_reducible refine OP.out.mono ?_); rintro e w2 ⟨rfl, k2, s2⟩)
          go_roundw
          case rel => exact ⟨3, rfl, rfl, by omega, by omega, k2, s1.trans s2.below⟩
          case measure => simp [intOf]
        · have hnk : n = 2 := by omega
          have hkey : D.rename (D.Y n 2 a1 b1) [110, 101, 119] [111, 108, 100] = (D.Z 2 a1 b1, 10) := by subst hnk; exact D.y2_last a1 b1
          have hmin : min (n : Int) 3 = 2 := by omega
          have d5 : decide ((n : Int) < 3) = true := decide_eq_true (by omega)
          have d6 : decide (n < 3) = true := decide_eq_true (by omega)
          have OP := Lib.hid (rename_to (z := 10) (M' := D.Z 2 a1 b1) k1 [110, 101, 119] [111, 108, 100] (by simp) (by simp) (by rw [hkey]) (by rw [hkey]; rfl))
          obtain ⟨f, hcr, hfn⟩ := D.crash_Z a1 b1 2
          have DE := Lib.hid (fun W (h : DkAt w.heap.size W p (D.Z 2 a1 b1)) => dead_any h)
          have CR := Lib.hid (fun W (h : DkAt w.heap.size W p (D.Z 2 a1 b1)) => crash_to (M' := ⟨10000, -1, false, [f, D.oldF a1]⟩) h [] (.slice none 0 0) (by simp) (by simp) (fun w' _ => intsAt_nil w') (by have := D.used_Z a1 b1 2; omega) hcr)
          have RD := Lib.hid (fun W (h : DkAt w.heap.size W p ⟨10000, -1, false, [f, D.oldF a1]⟩) => read_to (s := a1) (z := 0) h [111, 108, 100] (by simp) (by rw [D.read_Z a1 hfn]) (by rw [D.read_Z a1 hfn]; rfl))
          rw [show (D.Z 2 a1 b1).dead = true from rfl] at DE
          clear hcr hfn hm hn8 d0 d1 hk1 hk2 hr hkey hnk
          go_wp2_with (first | (go_at_call 48; (with_reducible refine OP.out.mono ?_); rintro e w2 ⟨rfl, k2, s2⟩) | (first | (go_at_call 44; first | ((with_reducible refine (DE.out _ k2).mono ?_); rintro e w9 ⟨rfl, rfl⟩) | ((with_reducible refine (DE.out).mono ?_); rintro e w9 ⟨rfl, rfl⟩)) | (go_at_call 41; first | ((with_reducible refine (CR.out _ k2).mono ?_); rintro e w3 ⟨rfl, k3, s3⟩) | ((with_reducible refine (CR.out).mono ?_); rintro e w3 ⟨rfl, k3, s3⟩)) | (go_at_call 43; (with_reducible refine (RD.out _ k3).mono ?_); rintro e w9 ⟨rfl, rfl⟩) | (go_at_call 45; (with_reducible refine (AW.out _).mono ?_); rintro e w4 ⟨rfl, s4⟩)))
          go_ret
          exact ⟨rfl, s1.trans (s2.below.trans (s3.below.trans (s4.mono (Nat.le_of_lt k3.lt))))⟩
      · have hmin : min (n : Int) 3 = 3 := by omega
        have d5 : decide ((n : Int) < 3) = false := decide_eq_false (by omega)
        have d6 : decide (n < 3) = false := decide_eq_false (by omega)
        have DE := Lib.hid (dead_any k1)
        have CR := Lib.hid (crash_to (M' := ⟨10000, -1, false, [D.oldF b1]⟩) k1 [] (.slice none 0 0) (by simp) (by simp) (fun w' _ => intsAt_nil w') (by have := D.used_Y n a1 b1 3; omega) (D.crash_Y3 n a1 b1))
        have RD := Lib.hid (fun W (h : DkAt w.heap.size W p ⟨10000, -1, false, [D.oldF b1]⟩) => read_to (s := b1) (z := 0) h [111, 108, 100] (by simp) rfl rfl)
        have hself : (b1 == b1) = true := beq_self_eq_true b1
        rw [show (D.Y n 3 a1 b1).dead = false from rfl] at DE
        clear hself
        go_wp2_with (first | (go_at_call 44; first | ((with_reducible refine (DE.out _ k2).mono ?_); rintro e w9 ⟨rfl, rfl⟩) | ((with_reducible refine (DE.out).mono ?_); rintro e w9 ⟨rfl, rfl⟩)) | (go_at_call 41; first | ((with_reducible refine (CR.out _ k2).mono ?_); rintro e w3 ⟨rfl, k3, s3⟩) | ((with_reducible refine (CR.out).mono ?_); rintro e w3 ⟨rfl, k3, s3⟩)) | (go_at_call 43; (with_reducible refine (RD.out _ k3).mono ?_); rintro e w9 ⟨rfl, rfl⟩) | (go_at_call 45; (with_reducible refine (AW.out _).mono ?_); rintro e w4 ⟨rfl, s4⟩))
        go_ret
        exact ⟨rfl, s1.trans (s3.below.trans (s4.mono (Nat.le_of_lt k3.lt)))⟩
end Go.Proofs.Ytknkbioalohofaa
