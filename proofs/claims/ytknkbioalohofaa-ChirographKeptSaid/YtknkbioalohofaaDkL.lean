/- The walks of the disk laws' helpers: awake, Few; numbers as arguments. -/
import Derived.Test.YtknkbioalohofaaDkH
import Derived.Test.YtknkbioalohofaaCut
import Derived.Test.YtknkbioalohofaaOpenT
namespace Go.Proofs.Ytknkbioalohofaa
open Go.RowKit Go.Maps Go.ChangeMaps Go.MapKept Go.WideMaps Go.ChangeShapes Go.WideShapes Go.ChangeAt

def intI (a : Int) : Value := .int .i64 a
theorem int_oneI (l : List Int) : ∀ u ∈ l.map intI, u.oneCell' = true := by
  intro u hu
  obtain ⟨b, _, rfl⟩ := List.mem_map.1 hu
  rfl
theorem intsAt_nil (w : World) : IntsAt w (.slice none 0 0) [] := ⟨none, 0, rfl, Nat.le_refl _, .inl rfl⟩
set_option maxRecDepth 100000 in
set_option maxHeartbeats 1000000 in
theorem few_any (l : List Int) (v : Value) (w : World) (h : IntsAt w v l) (n : Nat) (h0 : 0 < n) (hn : n ≤ 1000000) :
    Calls Try.prog 42 #[v, .int .i64 (n : Int)] w fun e w' => ∃ v', e = .returned v' ∧ Row1 w' 3 v' ((l.take n).map intI) ∧ Below w.heap.size w w' := by
  obtain ⟨A, c, rfl, hc, hcell⟩ := h
  have hlm : (l.map fun a => Value.int .i64 a).length = l.length := List.length_map _
  rw [hlm] at hc ⊢
  have r0 : Row1 (w.alloc (.cells #[] 3)) 3 (.slice (some ⟨w.heap.size, 0, none⟩) 0 0) [] := Row1.build w _ [] #[] 0 rfl rfl (by omega)
  have hbw := (Below.refl w.heap.size w).alloc (Nat.le_refl _) (.cells #[] 3)
  by_cases hnil : l = []
  · subst hnil
    have d1 : decide ((n : Int) < 0) = false := by simp
    cases A with
    | none =>
      have hap : ∀ ty, (Builtin.append_ #[39, 39] ty #[.slice (some ⟨w.heap.size, 0, none⟩) 0 0, .slice none 0 c]).run Try.prog (w.alloc (.cells #[] 3)) = .ok (.slice (some ⟨w.heap.size, 0, none⟩) 0 0) (w.alloc (.cells #[] 3)) := by
        intro ty
        obtain ⟨i0, hi, hz0, hz1, hz2⟩ := info_parts info_int.1
        simp [Builtin.append_, run_underlying Try.underlying39, sizeOf, typeInfo, hi, Builtin.lenOf, Builtin.firstCells, storeCells]
      go_enter Try.func42, Try.ntmps42
      go_wp2
      go_ret
      exact ⟨_, rfl, by rw [List.take_nil]; exact r0, hbw⟩
    | some a =>
      go_enter Try.func42, Try.ntmps42
      go_wp2_with (at_builtin; refine wpList_append_row rfl info_int (.tmp 12) (.tmp 13) 39 rfl Try.underlying39 rfl r0 a 0 c [] rfl rfl (by simp) (by simp) (by simp) ?_; intro v1 w1 r1 g1 o1)
      go_ret
      exact ⟨v1, rfl, by rw [List.take_nil]; exact r1, below_grown_own hbw hbw.size g1 (.inr ⟨_, Nat.le_refl _, rfl⟩)⟩
  · obtain ⟨g, o, rfl, hg, hcell⟩ : ∃ g o, A = some ⟨g, o, none⟩ ∧ g < w.heap.size ∧ ∀ j u, (l.map fun a => Value.int .i64 a)[j]? = some u → w.cell? ⟨g, o + j, none⟩ = some u := by
      rcases hcell with e | e
      · exact absurd (List.map_eq_nil_iff.1 e) hnil
      · exact e
    have hl0 : 0 < l.length := by cases l with | nil => exact absurd rfl hnil | cons _ _ => simp
    have hnews : ∀ j u, ((l.take n).map intI)[j]? = some u → (w.alloc (.cells #[] 3)).cell? ((⟨g, o, none⟩ : Addr).add j) = some u := by
      intro j u hj
      rw [Addr.add_mid, (hbw.cell (p := ⟨g, o + j, none⟩) hg)]
      refine hcell j u ?_
      rw [List.getElem?_map] at hj ⊢
      rw [List.getElem?_take] at hj
      split at hj
      · exact hj
      · cases hj
    have hlen := List.length_take (i := n) (l := l)
    by_cases hb : n < l.length
    · have d1 : decide ((n : Int) < (l.length : Int)) = true := by simp; omega
      have d2 : decide (n < l.length) = true := by simp; omega
      have hnc : n ≤ c := by omega
      have hml : ((l.take n).map intI).length = n := by rw [List.length_map]; omega
      go_enter Try.func42, Try.ntmps42
      go_wp2_with (at_builtin; refine wpList_append_row rfl info_int (.tmp 12) (.tmp 13) 39 rfl Try.underlying39 rfl r0 ⟨g, o, none⟩ n c ((l.take n).map intI) rfl hml hnews (int_oneI _) (by simp; omega) ?_; intro v1 w1 r1 g1 o1)
      go_ret
      exact ⟨v1, rfl, r1, below_grown_own hbw hbw.size g1 (.inr ⟨_, Nat.le_refl _, rfl⟩)⟩
    · have d1 : decide ((n : Int) < (l.length : Int)) = false := by simp; omega
      have d2 : decide (n < l.length) = false := by simp; omega
      have htk : l.take n = l := List.take_of_length_le (by omega)
      rw [htk] at hnews
      rw [htk]
      have hml : (l.map intI).length = l.length := List.length_map _
      go_enter Try.func42, Try.ntmps42
      go_wp2_with (at_builtin; refine wpList_append_row rfl info_int (.tmp 12) (.tmp 13) 39 rfl Try.underlying39 rfl r0 ⟨g, o, none⟩ l.length c (l.map intI) rfl hml hnews (int_oneI _) (by simp; omega) ?_; intro v1 w1 r1 g1 o1)
      go_ret
      exact ⟨v1, rfl, r1, below_grown_own hbw hbw.size g1 (.inr ⟨_, Nat.le_refl _, rfl⟩)⟩
theorem row_ints {B : Nat} {w : World} {v : Value} {l : List Int} (h : Row1 w 3 v (l.map intI)) : ∀ w', DStp B w w' → IntsAt w' v l := fun _ d => (h.dstp d (by decide) (by decide)).reads
theorem ints_at {B : Nat} {w : World} {v : Value} {l : List Int} (h : IntsAt w v l) (hb : w.heap.size ≤ B) {w' : World} (hw : Below B w w') : IntsAt w' v l := SRead.at_ h (hw.mono hb)
theorem lcut_to (s : List UInt8) (n : Nat) {z : Int} (hz : (n : Int) = z) (w : World) : Calls Try.prog 19 #[.string ⟨s.toArray⟩, .int .i64 z] w fun e w' => e = .returned (.string ⟨(s.take n).toArray⟩) ∧ w = w' := by
  rw [← hz]; exact lcut_any s n w
theorem few_to (l : List Int) (v : Value) (w : World) (h : IntsAt w v l) (n : Nat) (h0 : 0 < n) (hn : n ≤ 1000000) {z : Int} (hz : (n : Int) = z) :
    Calls Try.prog 42 #[v, .int .i64 z] w fun e w' => ∃ v', e = .returned v' ∧ Row1 w' 3 v' ((l.take n).map intI) ∧ Below w.heap.size w w' := by
  rw [← hz]; exact few_any l v w h n h0 hn
section
variable {B : Nat} {w : World} {p : Nat} {M M' : D.Dk} {z : Int}
theorem new_to (r : Int) (hr : -9223372036854775808 ≤ r ∧ r < 9223372036854775808) (w : World) (hM : (⟨max r 0, -1, false, []⟩ : D.Dk) = M') :
    Calls Try.prog 37 #[.int .i64 r] w fun e w' => ∃ p, e = .returned (.pointer (some ⟨p, 0, none⟩)) ∧ DkAt w.heap.size w' p M' ∧ Below w.heap.size w w' := by
  rw [← hM]; exact new_any r hr w
theorem append_to (h : DkAt B w p M) (n b : List UInt8) (hn : n.length ≤ 9223372036854775807) (hb : b.length ≤ 9223372036854775807) (hu : D.used M.files + b.length ≤ 1099511627776) (hM : (D.append M n b).1 = M') (hz : ((D.append M n b).2 : Int) = z) :
    Calls Try.prog 38 #[.pointer (some ⟨p, 0, none⟩), .string ⟨n.toArray⟩, .string ⟨b.toArray⟩] w fun e w' => e = .returned (.int .i64 z) ∧ DkAt B w' p M' ∧ DStp B w w' := by
  rw [← hM, ← hz]; exact append_any h n b hn hb hu
theorem sync_to (h : DkAt B w p M) (n : List UInt8) (hn : n.length ≤ 9223372036854775807) (hM : (D.sync M n).1 = M') (hz : ((D.sync M n).2 : Int) = z) :
    Calls Try.prog 39 #[.pointer (some ⟨p, 0, none⟩), .string ⟨n.toArray⟩] w fun e w' => e = .returned (.int .i64 z) ∧ DkAt B w' p M' ∧ DStp B w w' := by
  rw [← hM, ← hz]; exact sync_any h n hn
theorem rename_to (h : DkAt B w p M) (n m : List UInt8) (hn : n.length ≤ 9223372036854775807) (hm : m.length ≤ 9223372036854775807) (hM : (D.rename M n m).1 = M') (hz : ((D.rename M n m).2 : Int) = z) :
    Calls Try.prog 48 #[.pointer (some ⟨p, 0, none⟩), .string ⟨n.toArray⟩, .string ⟨m.toArray⟩] w fun e w' => e = .returned (.int .i64 z) ∧ DkAt B w' p M' ∧ DStp B w w' := by
  rw [← hM, ← hz]; exact rename_any h n m hn hm
theorem remove_to (h : DkAt B w p M) (n : List UInt8) (hn : n.length ≤ 9223372036854775807) (hM : (D.remove M n).1 = M') (hz : ((D.remove M n).2 : Int) = z) :
    Calls Try.prog 47 #[.pointer (some ⟨p, 0, none⟩), .string ⟨n.toArray⟩] w fun e w' => e = .returned (.int .i64 z) ∧ DkAt B w' p M' ∧ DStp B w w' := by
  rw [← hM, ← hz]; exact remove_any h n hn
theorem spoil_to (h : DkAt B w p M) (n : List UInt8) (t : Int) (y : UInt8) (hn : n.length ≤ 9223372036854775807) (ht : -9223372036854775808 ≤ t ∧ t < 9223372036854775808) (hu : D.used M.files ≤ 1099511627776) (hM : (D.spoil M n t y).1 = M') (hz : ((D.spoil M n t y).2 : Int) = z) :
    Calls Try.prog 49 #[.pointer (some ⟨p, 0, none⟩), .string ⟨n.toArray⟩, .int .i64 t, .int .u8 (y.toNat : Int)] w fun e w' => e = .returned (.int .i64 z) ∧ DkAt B w' p M' ∧ DStp B w w' := by
  rw [← hM, ← hz]; exact spoil_any h n t y hn ht hu
theorem arm_to (h : DkAt B w p M) (n : Int) (hn : -9223372036854775808 ≤ n ∧ n < 9223372036854775808) (hM : D.arm M n = M') :
    Calls Try.prog 40 #[.pointer (some ⟨p, 0, none⟩), .int .i64 n] w fun e w' => e = .returned (.tuple #[]) ∧ DkAt B w' p M' ∧ DStp B w w' := by
  rw [← hM]; exact arm_any h n hn
theorem crash_to (h : DkAt B w p M) (keeps : List Int) (kv : Value) (hkl : keeps.length ≤ 9223372036854775807) (hwf : ∀ a ∈ keeps, -9223372036854775808 ≤ a ∧ a < 9223372036854775808)
    (hk : ∀ w', DStp B w w' → IntsAt w' kv keeps) (hu : D.used M.files ≤ 1099511627776) (hM : D.crash M keeps = M') :
    Calls Try.prog 41 #[.pointer (some ⟨p, 0, none⟩), kv] w fun e w' => e = .returned (.tuple #[]) ∧ DkAt B w' p M' ∧ DStp B w w' := by
  rw [← hM]; exact crash_any h keeps kv hkl hwf hk hu
theorem read_to (h : DkAt B w p M) (n : List UInt8) (hn : n.length ≤ 9223372036854775807) {s : List UInt8} (hs : (D.read M n).1 = s) (hz : ((D.read M n).2 : Int) = z) :
    Calls Try.prog 43 #[.pointer (some ⟨p, 0, none⟩), .string ⟨n.toArray⟩] w fun e w' => e = .returned (.tuple #[.string ⟨s.toArray⟩, .int .i64 z]) ∧ w' = w := by
  rw [← hs, ← hz]; exact read_any h n hn
theorem used_to (h : DkAt B w p M) (hu : D.used M.files ≤ 1099511627776) (hz : (D.used M.files : Int) = z) :
    Calls Try.prog 46 #[.pointer (some ⟨p, 0, none⟩)] w fun e w' => e = .returned (.int .i64 z) ∧ Below w.heap.size w w' := by
  obtain ⟨mb, Es, h⟩ := h
  rw [← hz]; exact used_any h hu
end
set_option maxRecDepth 100000 in
set_option maxHeartbeats 4000000 in
theorem dawake_any (w : World) : Calls Try.prog 45 #[] w fun e w' => e = .returned (.bool true) ∧ Below w.heap.size w w' := by
  have NW := Lib.hid (new_to (M' := ⟨100, -1, false, []⟩) 100 (by omega) w rfl)
  have A1 := Lib.hid (fun W p (h : DkAt w.heap.size W p ⟨100, -1, false, []⟩) => append_to (z := 0) (M' := ⟨100, -1, false, [⟨[97], [120, 121, 122], 0⟩]⟩) h [97] [120, 121, 122] (by simp) (by simp) (by decide) rfl rfl)
  have S1 := Lib.hid (fun W p (h : DkAt w.heap.size W p ⟨100, -1, false, [⟨[97], [120, 121, 122], 0⟩]⟩) => sync_to (z := 0) (M' := ⟨100, -1, false, [⟨[97], [120, 121, 122], 3⟩]⟩) h [97] (by simp) rfl rfl)
  have A2 := Lib.hid (fun W p (h : DkAt w.heap.size W p ⟨100, -1, false, [⟨[97], [120, 121, 122], 3⟩]⟩) => append_to (z := 0) (M' := ⟨100, -1, false, [⟨[97], [120, 121, 122, 117, 118], 3⟩]⟩) h [97] [117, 118] (by simp) (by simp) (by decide) rfl rfl)
  have C1 := Lib.hid (fun W p v (h : DkAt w.heap.size W p ⟨100, -1, false, [⟨[97], [120, 121, 122, 117, 118], 3⟩]⟩) hk => crash_to (M' := ⟨100, -1, false, [⟨[97], [120, 121, 122, 117], 4⟩]⟩) h [1] v (by simp) (by simp) hk (by decide) rfl)
  have R1 := Lib.hid (fun W p (h : DkAt w.heap.size W p ⟨100, -1, false, [⟨[97], [120, 121, 122, 117], 4⟩]⟩) => read_to (z := 0) (s := [120, 121, 122, 117]) h [97] (by simp) rfl rfl)
  have U1 := Lib.hid (fun W p (h : DkAt w.heap.size W p ⟨100, -1, false, [⟨[97], [120, 121, 122, 117], 4⟩]⟩) => used_to (z := 4) h (by decide) rfl)
  go_enter Try.func45, Try.ntmps45
  go_wp2_with (first | (go_at_call 37; (with_reducible refine NW.out.mono ?_); rintro e w1 ⟨p, rfl, k1, s1⟩) | (go_at_call 38; first | ((with_reducible refine (A2.out _ _ k3).mono ?_); rintro e w4 ⟨rfl, k4, s4⟩; have k5 := k4.at_ ((Below.refl _ _).alloc (Nat.le_refl _) (.cells #[.int .i64 1] 3)); have hk5 : ∀ w', DStp w.heap.size (w4.alloc (.cells #[.int .i64 1] 3)) w' → IntsAt w' (.slice (some ⟨w4.heap.size, 0, none⟩) 1 1) [1] := row_ints (Row1.build w4 3 [intI 1] #[intI 1] 1 rfl rfl (by omega))) | ((with_reducible refine (A1.out _ _ k1).mono ?_); rintro e w2 ⟨rfl, k2, s2⟩)) | (go_at_call 39; (with_reducible refine (S1.out _ _ k2).mono ?_); rintro e w3 ⟨rfl, k3, s3⟩) | (go_at_call 41; (with_reducible refine (C1.out _ _ _ k5 hk5).mono ?_); rintro e w6 ⟨rfl, k6, s6⟩) | (go_at_call 43; (with_reducible refine (R1.out _ _ k6).mono ?_); rintro e w7 ⟨rfl, rfl⟩) | (go_at_call 46; (with_reducible refine (U1.out _ _ k6).mono ?_); rintro e w8 ⟨rfl, s8⟩))
  go_ret
  exact ⟨rfl, s1.trans ((s2.below.trans (s3.below.trans (s4.below.trans (((Below.refl _ _).alloc (Nat.le_of_lt k4.lt) _).trans s6.below)))).trans (s8.mono (Nat.le_of_lt k6.lt)))⟩
end Go.Proofs.Ytknkbioalohofaa
