/- The walk of DiskRoom. -/
import Derived.Test.YtknkbioalohofaaDkL
import Derived.Test.YtknkbioalohofaaPureDisk2
import Derived.Test.YtknkbioalohofaaKit6
namespace Go.Proofs.Ytknkbioalohofaa
open Go.RowKit Go.Maps Go.ChangeMaps Go.MapKept Go.WideMaps

namespace D
def bo : Option (List UInt8) → List UInt8
  | none => []
  | some b => b
/-- A disk with at most one file, f, of which nothing is sure. -/
def R (room : Nat) (ob : Option (List UInt8)) : Dk := ⟨room, -1, false, match ob with | none => [] | some b => [⟨[102], b, 0⟩]⟩
theorem used_R (room : Nat) (ob : Option (List UInt8)) : used (R room ob).files = (bo ob).length := by cases ob <;> simp [R, used, bo]
theorem R_fuse (room : Nat) (ob : Option (List UInt8)) : (R room ob).fuse < 0 := by show (-1 : Int) < 0; omega
theorem append_R_fits (room : Nat) (ob : Option (List UInt8)) (t : List UInt8) (h : t.length + (bo ob).length ≤ room) : append (R room ob) [102] t = (R room (some (bo ob ++ t)), 0) := by
  have hu := used_R room ob
  have hr : (R room ob).room = (room : Int) := rfl
  cases ob with
  | none => rw [append_new rfl rfl rfl (by rw [hu, hr]; omega) (by show 0 < 4096; omega), deed_calm (R_fuse _ _)]; rfl
  | some b => rw [append_old (f := ⟨[102], b, 0⟩) rfl rfl rfl (by rw [hu, hr]; omega), deed_calm (R_fuse _ _)]; rfl
theorem append_R_not (room : Nat) (ob : Option (List UInt8)) (t : List UInt8) (h : ¬ t.length + (bo ob).length ≤ room) : append (R room ob) [102] t = (R room ob, 9) := by
  have hu := used_R room ob
  have hr : (R room ob).room = (room : Int) := rfl
  exact append_full rfl rfl (by rw [hu, hr]; omega)
theorem append_g (room : Nat) (t : List UInt8) (h : t.length ≤ room) : append (R room none) [103] t = (⟨room, -1, false, [⟨[103], t, 0⟩]⟩, 0) := by
  have hu := used_R room none
  have hr : (R room none).room = (room : Int) := rfl
  have h0 : (bo none).length = 0 := rfl
  rw [append_new rfl rfl rfl (by rw [hu, hr, h0]; omega) (by show 0 < 4096; omega), deed_calm (R_fuse _ _)]; rfl
theorem remove_R (room : Nat) (b : List UInt8) : remove (R room (some b)) [102] = (R room none, 0) := by
  rw [remove_ok (f := ⟨[102], b, 0⟩) rfl rfl (by rw [deed_calm (R_fuse _ _)]), deed_calm (R_fuse _ _)]; rfl
theorem remove_R0 (room : Nat) : remove (R room none) [102] = (R room none, 7) := remove_none rfl rfl
end D
set_option maxRecDepth 100000 in
set_option maxHeartbeats 8000000 in
theorem droom_walk (room : Int) (hr : -9223372036854775808 ≤ room ∧ room < 9223372036854775808) (ts : List (List UInt8)) (v : Value) (w : World) (hT : SRead w v (ts.map strV)) (htl : ts.length ≤ 9223372036854775807) :
    Calls Try.prog 10 #[.int .i64 room, v] w fun e w' => e = .returned (.bool true) ∧ Below w.heap.size w w' := by
  have AW := Lib.hid (fun W => dawake_any W)
  by_cases hout : room < 0 ∨ 3000 < room
  · by_cases h0 : room < 0
    · have d0 : decide (room < 0) = true := decide_eq_true h0
      go_enter Try.func10, Try.ntmps10
      go_wp2_with (go_at_call 45; (with_reducible refine (AW.out _).mono ?_); rintro e w1 ⟨rfl, hb⟩)
      go_ret
      exact ⟨rfl, hb⟩
    · have d0 : decide (room < 0) = false := decide_eq_false h0
      have d1 : decide (3000 < room) = true := decide_eq_true (by omega)
      go_enter Try.func10, Try.ntmps10
      go_wp2_with (go_at_call 45; (with_reducible refine (AW.out _).mono ?_); rintro e w1 ⟨rfl, hb⟩)
      go_ret
      exact ⟨rfl, hb⟩
  · obtain ⟨r, rfl⟩ : ∃ r : Nat, room = (r : Int) := ⟨room.toNat, by omega⟩
    have hr3 : r ≤ 3000 := by omega
    have d0 : decide ((r : Int) < 0) = false := decide_eq_false (by omega)
    have d1 : decide (3000 < (r : Int)) = false := decide_eq_false (by omega)
    have NW := Lib.hid (new_to (M' := D.R r none) (r : Int) (by omega) w (by show (⟨max (r : Int) 0, -1, false, []⟩ : D.Dk) = ⟨(r : Int), -1, false, []⟩; rw [show max (r : Int) 0 = (r : Int) from by omega]))
    obtain ⟨A, c, rfl, hc, hcell⟩ := hT
    have hlm : (ts.map strV).length = ts.length := List.length_map _
    rw [hlm] at hc ⊢
    clear hout
    go_enter Try.func10, Try.ntmps10
    go_wp2_with (go_at_call 37; (with_reducible refine NW.out.mono ?_); rintro e w1 ⟨p, rfl, k1, s1⟩)
    go_loopw [6, 7] (fun u i wr => ∃ (k : Nat) (ob : Option (List UInt8)), u = .int .i64 ((D.bo ob).length : Int) ∧ i = .int .i64 (k : Int) ∧ k ≤ ts.length ∧ k ≤ 20 ∧ (D.bo ob).length ≤ r ∧ DkAt w.heap.size wr p (D.R r ob) ∧ Below w.heap.size w wr) (fun _ i _ => 20 - (intOf i).toNat)
    case atStart => exact ⟨0, none, rfl, rfl, by omega, by omega, Nat.zero_le _, k1, s1⟩
    case round =>
      clear k1 s1
      obtain ⟨k, ob, rfl, rfl, hk1, hk2, hur, k1, s1⟩ := hrel
      have j0 : (0 : Int) ≤ (k : Int) := by omega
      by_cases hmore : k < ts.length ∧ k < 20
      · obtain ⟨hm1, hm2⟩ := hmore
        have d2 : decide ((k : Int) < (ts.length : Int)) = true := decide_eq_true (by omega)
        have d3 : decide ((k : Int) < 20) = true := decide_eq_true (by omega)
        have j1 : (k : Int) < (ts.length : Int) := by omega
        obtain ⟨t, ht⟩ : ∃ t, ts[k]? = some t := ⟨_, List.getElem?_eq_getElem hm1⟩
        obtain ⟨g, o, rfl, hg, hcell⟩ : ∃ g o, A = some ⟨g, o, none⟩ ∧ g < w.heap.size ∧ ∀ j u, (ts.map strV)[j]? = some u → w.cell? ⟨g, o + j, none⟩ = some u := by
          rcases hcell with e | e
          · exfalso; have h9 : ts.length = 0 := by rw [← hlm, e]; rfl
            omega
          · exact e
        have cT : wr.cell? ⟨g, o + k, none⟩ = some (.string ⟨t.toArray⟩) := (s1.cell (p := ⟨g, o + k, none⟩) hg).trans (hcell k _ (by rw [List.getElem?_map, ht]; rfl))
        have CU := Lib.hid (fun W => lcut_to t 300 (z := 300) rfl W)
        have htk : (t.take 300).length ≤ 300 := by rw [List.length_take]; omega
        have hw1 : IntKind.i64.wrap ((k : Int) + 1) = ((k + 1 : Nat) : Int) := by rw [IntWalk.i64_in _ (by omega)]; omega
        have hw2 : IntKind.i64.wrap ((r : Int) - ((D.bo ob).length : Int)) = ((r - (D.bo ob).length : Nat) : Int) := by rw [IntWalk.i64_in _ (by omega)]; omega
        by_cases hfit : (t.take 300).length + (D.bo ob).length ≤ r
        · have ha := D.append_R_fits r ob (t.take 300) hfit
          have hu9 : D.used (D.R r ob).files + (t.take 300).length ≤ 1099511627776 := by rw [D.used_R]; omega
          have AP := Lib.hid (append_to (z := 0) (M' := D.R r (some (D.bo ob ++ t.take 300))) k1 [102] (t.take 300) (by simp) (by omega) hu9 (by rw [ha]) (by rw [ha]; rfl))
          have US := Lib.hid (fun W (h : DkAt w.heap.size W p (D.R r (some (D.bo ob ++ t.take 300)))) => used_to (z := (((D.bo ob).length + (t.take 300).length : Nat) : Int)) h (by rw [D.used_R, show ∀ x, D.bo (some x) = x from fun _ => rfl, List.length_append]; omega) (by rw [D.used_R, show ∀ x, D.bo (some x) = x from fun _ => rfl, List.length_append]))
          have hw3 : IntKind.i64.wrap (((D.bo ob).length : Int) + ((t.take 300).length : Int)) = (((D.bo ob).length + (t.take 300).length : Nat) : Int) := by rw [IntWalk.i64_in _ (by omega)]; omega
          have d4 : decide (((t.take 300).length : Int) ≤ ((r - (D.bo ob).length : Nat) : Int)) = true := decide_eq_true (by omega)
          have d5 : decide ((t.take 300).length ≤ r - (D.bo ob).length) = true := decide_eq_true (by omega)
          have hnew : (D.bo (some (D.bo ob ++ t.take 300))).length = (D.bo ob).length + (t.take 300).length := by simp [D.bo]
          have Hn := Lib.hid hnew
          clear hnew ha hu9
          generalize t.take 300 = q at *
          have hz : (⟨q.toArray⟩ : ByteArray).size = q.length := str_size q
          go_wp2_with (first | (go_at_call 19; (with_reducible refine (CU.out _).mono ?_); rintro e w2 ⟨rfl, rfl⟩) | (go_at_call 38; (with_reducible refine AP.out.mono ?_); rintro e w3 ⟨rfl, k2, s2⟩) | (go_at_call 46; (with_reducible refine (US.out _ k2).mono ?_); rintro e w4 ⟨rfl, s3⟩))
          go_roundw
          case rel => exact ⟨k + 1, _, by rw [Hn.out, Int.natCast_add], rfl, by omega, by omega, by rw [Hn.out]; omega, k2.at_ s3, s1.trans (s2.below.trans (s3.mono (Nat.le_of_lt k2.lt)))⟩
          case measure => simp [intOf]; omega
        · have ha := D.append_R_not r ob (t.take 300) hfit
          have hu9 : D.used (D.R r ob).files + (t.take 300).length ≤ 1099511627776 := by rw [D.used_R]; omega
          have AP := Lib.hid (append_to (z := 9) (M' := D.R r ob) k1 [102] (t.take 300) (by simp) (by omega) hu9 (by rw [ha]) (by rw [ha]; rfl))
          have US := Lib.hid (fun W (h : DkAt w.heap.size W p (D.R r ob)) => used_to (z := ((D.bo ob).length : Int)) h (by rw [D.used_R]; omega) (by rw [D.used_R]))
          have d4 : decide (((t.take 300).length : Int) ≤ ((r - (D.bo ob).length : Nat) : Int)) = false := decide_eq_false (by omega)
          have d5 : decide ((t.take 300).length ≤ r - (D.bo ob).length) = false := decide_eq_false (by omega)
          clear ha hu9
          generalize t.take 300 = q at *
          have hz : (⟨q.toArray⟩ : ByteArray).size = q.length := str_size q
          go_wp2_with (first | (go_at_call 19; (with_reducible refine (CU.out _).mono ?_); rintro e w2 ⟨rfl, rfl⟩) | (go_at_call 38; (with_reducible refine AP.out.mono ?_); rintro e w3 ⟨rfl, k2, s2⟩) | (go_at_call 46; (with_reducible refine (US.out _ k2).mono ?_); rintro e w4 ⟨rfl, s3⟩))
          go_roundw
          case rel => exact ⟨k + 1, _, rfl, rfl, by omega, by omega, hur, k2.at_ s3, s1.trans (s2.below.trans (s3.mono (Nat.le_of_lt k2.lt)))⟩
          case measure => simp [intOf]; omega
      · have GA := Lib.hid (fun W (h : DkAt w.heap.size W p (D.R r none)) => append_to (z := 0) (M' := ⟨r, -1, false, [⟨[103], List.replicate r 0, 0⟩]⟩) h [103] (List.replicate r 0) (by simp) (by rw [List.length_replicate]; omega) (by rw [D.used_R, List.length_replicate]; show 0 + r ≤ _; omega) (by rw [D.append_g r _ (by rw [List.length_replicate]; omega)]) (by rw [D.append_g r _ (by rw [List.length_replicate]; omega)]; rfl))
        have hmk := fun W => make_bytes 41 Try.underlying41 r (r : Int) rfl (by omega) W
        have hcv : ∀ W : World, (convert 41 9 (.slice (some ⟨W.heap.size, 0, none⟩) r r)).run Try.prog (W.alloc (.cells (labA (List.replicate r 0)) 5)) = .ok (.string ⟨(List.replicate r 0).toArray⟩) (W.alloc (.cells (labA (List.replicate r 0)) 5)) := fun W => by
          have := conv_blk (Blk.new W (labA (List.replicate r 0)) 5) 41 Try.underlying41 r r (by rw [List.length_replicate]; omega)
          rwa [List.take_of_length_le (by rw [List.length_replicate]; omega)] at this
        have US := Lib.hid (fun W (h : DkAt w.heap.size W p (D.R r none)) => used_to (z := 0) h (by rw [D.used_R]; show 0 ≤ _; omega) (by rw [D.used_R]; rfl))
        generalize List.replicate r (0 : UInt8) = zs at *
        have hsplit : (decide ((k : Int) < (ts.length : Int)) = false ∧ decide (k < ts.length) = false) ∨ (decide ((k : Int) < (ts.length : Int)) = true ∧ decide (k < ts.length) = true ∧ decide ((k : Int) < 20) = false ∧ decide (k < 20) = false) := by
          by_cases h9 : k < ts.length
          · exact .inr ⟨decide_eq_true (by omega), decide_eq_true (by omega), decide_eq_false (by omega), decide_eq_false (by omega)⟩
          · exact .inl ⟨decide_eq_false (by omega), decide_eq_false (by omega)⟩
        clear hmore hcell
        cases ob with
        | none =>
          have RM := Lib.hid (remove_to (z := 7) (M' := D.R r none) k1 [102] (by simp) (by rw [D.remove_R0]) (by rw [D.remove_R0]; rfl))
          have h0 : (D.bo none).length = 0 := rfl
          rw [h0]
          rcases hsplit with ⟨h1, h2⟩ | ⟨h1, h2, h3, h4⟩
          · skip
            go_wp2_with (first | (go_at_call 47; (with_reducible refine RM.out.mono ?_); rintro e w2 ⟨rfl, k2, s2⟩) | (go_at_call 45; (with_reducible refine (AW.out _).mono ?_); rintro e w3 ⟨rfl, s3⟩; have k3 := k2.at_ s3; have k5 := k3.at_ ((Below.refl _ _).alloc (Nat.le_refl _) (.cells (labA zs) 5))) | (go_at_call 46; (with_reducible refine (US.out _ k3).mono ?_); rintro e w4 ⟨rfl, s4⟩; have k4 := k3.at_ s4; replace k5 := k4.at_ ((Below.refl _ _).alloc (Nat.le_refl _) (.cells (labA zs) 5))) | (go_at_call 38; (with_reducible refine (GA.out _ k5).mono ?_); rintro e w6 ⟨rfl, k6, s6⟩))
            go_ret
            have hB2 := Nat.le_of_lt k2.lt
            have hB3 := Nat.le_of_lt k3.lt
            first | exact ⟨rfl, s1.trans (s2.below.trans ((s3.mono hB2).trans (((Below.refl _ _).alloc hB3 _).trans s6.below)))⟩ | exact ⟨rfl, s1.trans (s2.below.trans ((s3.mono hB2).trans ((s4.mono hB3).trans (((Below.refl _ _).alloc (Nat.le_of_lt k4.lt) _).trans s6.below))))⟩
          · skip
            go_wp2_with (first | (go_at_call 47; (with_reducible refine RM.out.mono ?_); rintro e w2 ⟨rfl, k2, s2⟩) | (go_at_call 45; (with_reducible refine (AW.out _).mono ?_); rintro e w3 ⟨rfl, s3⟩; have k3 := k2.at_ s3; have k5 := k3.at_ ((Below.refl _ _).alloc (Nat.le_refl _) (.cells (labA zs) 5))) | (go_at_call 46; (with_reducible refine (US.out _ k3).mono ?_); rintro e w4 ⟨rfl, s4⟩; have k4 := k3.at_ s4; replace k5 := k4.at_ ((Below.refl _ _).alloc (Nat.le_refl _) (.cells (labA zs) 5))) | (go_at_call 38; (with_reducible refine (GA.out _ k5).mono ?_); rintro e w6 ⟨rfl, k6, s6⟩))
            go_ret
            have hB2 := Nat.le_of_lt k2.lt
            have hB3 := Nat.le_of_lt k3.lt
            first | exact ⟨rfl, s1.trans (s2.below.trans ((s3.mono hB2).trans (((Below.refl _ _).alloc hB3 _).trans s6.below)))⟩ | exact ⟨rfl, s1.trans (s2.below.trans ((s3.mono hB2).trans ((s4.mono hB3).trans (((Below.refl _ _).alloc (Nat.le_of_lt k4.lt) _).trans s6.below))))⟩
        | some b =>
          have RM := Lib.hid (remove_to (z := 0) (M' := D.R r none) k1 [102] (by simp) (by rw [D.remove_R]) (by rw [D.remove_R]; rfl))
          rcases hsplit with ⟨h1, h2⟩ | ⟨h1, h2, h3, h4⟩
          · skip
            go_wp2_with (first | (go_at_call 47; (with_reducible refine RM.out.mono ?_); rintro e w2 ⟨rfl, k2, s2⟩) | (go_at_call 45; (with_reducible refine (AW.out _).mono ?_); rintro e w3 ⟨rfl, s3⟩; have k3 := k2.at_ s3; have k5 := k3.at_ ((Below.refl _ _).alloc (Nat.le_refl _) (.cells (labA zs) 5))) | (go_at_call 46; (with_reducible refine (US.out _ k3).mono ?_); rintro e w4 ⟨rfl, s4⟩; have k4 := k3.at_ s4; replace k5 := k4.at_ ((Below.refl _ _).alloc (Nat.le_refl _) (.cells (labA zs) 5))) | (go_at_call 38; (with_reducible refine (GA.out _ k5).mono ?_); rintro e w6 ⟨rfl, k6, s6⟩))
            go_ret
            have hB2 := Nat.le_of_lt k2.lt
            have hB3 := Nat.le_of_lt k3.lt
            first | exact ⟨rfl, s1.trans (s2.below.trans ((s3.mono hB2).trans (((Below.refl _ _).alloc hB3 _).trans s6.below)))⟩ | exact ⟨rfl, s1.trans (s2.below.trans ((s3.mono hB2).trans ((s4.mono hB3).trans (((Below.refl _ _).alloc (Nat.le_of_lt k4.lt) _).trans s6.below))))⟩
          · skip
            go_wp2_with (first | (go_at_call 47; (with_reducible refine RM.out.mono ?_); rintro e w2 ⟨rfl, k2, s2⟩) | (go_at_call 45; (with_reducible refine (AW.out _).mono ?_); rintro e w3 ⟨rfl, s3⟩; have k3 := k2.at_ s3; have k5 := k3.at_ ((Below.refl _ _).alloc (Nat.le_refl _) (.cells (labA zs) 5))) | (go_at_call 46; (with_reducible refine (US.out _ k3).mono ?_); rintro e w4 ⟨rfl, s4⟩; have k4 := k3.at_ s4; replace k5 := k4.at_ ((Below.refl _ _).alloc (Nat.le_refl _) (.cells (labA zs) 5))) | (go_at_call 38; (with_reducible refine (GA.out _ k5).mono ?_); rintro e w6 ⟨rfl, k6, s6⟩))
            go_ret
            have hB2 := Nat.le_of_lt k2.lt
            have hB3 := Nat.le_of_lt k3.lt
            first | exact ⟨rfl, s1.trans (s2.below.trans ((s3.mono hB2).trans (((Below.refl _ _).alloc hB3 _).trans s6.below)))⟩ | exact ⟨rfl, s1.trans (s2.below.trans ((s3.mono hB2).trans ((s4.mono hB3).trans (((Below.refl _ _).alloc (Nat.le_of_lt k4.lt) _).trans s6.below))))⟩
end Go.Proofs.Ytknkbioalohofaa
