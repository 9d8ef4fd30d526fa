/- The walk of JournalFull. -/
import Derived.Test.YtknkbioalohofaaJrG
namespace Go.Proofs.Ytknkbioalohofaa
open Go.RowKit

set_option maxRecDepth 100000 in
set_option maxHeartbeats 8000000 in
theorem jfull_walk (room : Int) (hr : -9223372036854775808 ≤ room ∧ room < 9223372036854775808) (ts : List (List UInt8)) (v : Value) (w : World) (hT : SRead w v (ts.map strV)) (htl : ts.length ≤ 9223372036854775807) :
    Calls Try.prog 15 #[.int .i64 room, v] w fun e w' => e = .returned (.bool true) ∧ Below w.heap.size w w' := by
  have AW := Lib.hid (fun W => jawake_any W)
  by_cases hout : room < 0 ∨ 3000 < room
  · by_cases h0 : room < 0
    · have d0 : decide (room < 0) = true := decide_eq_true h0
      go_enter Try.func15, Try.ntmps15
      go_wp2_with (go_at_call 59; (with_reducible refine (AW.out _).mono ?_); rintro e w1 ⟨rfl, hb⟩)
      go_ret
      exact ⟨rfl, hb⟩
    · have d0 : decide (room < 0) = false := decide_eq_false h0
      have d1 : decide (3000 < room) = true := decide_eq_true (by omega)
      go_enter Try.func15, Try.ntmps15
      go_wp2_with (go_at_call 59; (with_reducible refine (AW.out _).mono ?_); rintro e w1 ⟨rfl, hb⟩)
      go_ret
      exact ⟨rfl, hb⟩
  obtain ⟨r, rfl⟩ : ∃ r : Nat, room = (r : Int) := ⟨room.toNat, by omega⟩
  have hr3 : r ≤ 3000 := by omega
  have d0 : decide ((r : Int) < 0) = false := decide_eq_false (by omega)
  have d1 : decide (3000 < (r : Int)) = false := decide_eq_false (by omega)
  have NW := Lib.hid (new_to (M' := Jr.mk r []) (r : Int) (by omega) w (by show (⟨max (r : Int) 0, -1, false, []⟩ : D.Dk) = ⟨(r : Int), -1, false, []⟩; rw [show max (r : Int) 0 = (r : Int) from by omega]))
  obtain ⟨A, c, rfl, hT⟩ := sread_open hT
  have O1 := Lib.hid (fun W p (h : DkAt w.heap.size W p (Jr.mk r [])) => jopen_to (n := 0) (T := []) h rfl rfl Jr.Up.nil (by show 0 ≤ _; omega) rfl rfl (L := 0) rfl)
  clear hout hr
  go_enter Try.func15, Try.ntmps15
  go_wp2_with (first | (go_at_call 37; (with_reducible refine NW.out.mono ?_); rintro e w1 ⟨p, rfl, k1, s1⟩) | (go_at_call 56; (with_reducible refine (O1.out _ _ k1).mono ?_); rintro e w2 ⟨jb, A2, c2, rfl, q2, j2, r2, k2, b2⟩))
  have r0 : Row1 (w2.alloc (.cells #[] 9)) 9 (.slice (some ⟨w2.heap.size, 0, none⟩) 0 0) [] := Row1.build w2 _ [] #[] 0 rfl rfl (by omega)
  have B2 := s1.trans (b2.mono s1.size)
  have hws : w.heap.size ≤ w2.heap.size := B2.size
  clear NW O1 k1 r2
  go_loopw [9, 10] (fun t i wr => ∃ (k : Nat) (segs : List Jr.Sg), k ≤ ts.length ∧ k ≤ 20 ∧ i = .int .i64 (k : Int) ∧ JrAt wr jb p 0 ∧ Jr.Good segs 0 ∧ D.used (Jr.files segs) ≤ r ∧ segs.length ≤ k ∧ (Jr.texts segs).length ≤ k ∧ DkAt w.heap.size wr p (Jr.mk r segs) ∧ Row1 wr 9 t ((Jr.texts segs).map strV) ∧ (t.ownBlock = none ∨ ∃ k, w.heap.size ≤ k ∧ t.ownBlock = some k) ∧ Below w.heap.size w wr) (fun _ i _ => 20 - (intOf i).toNat)
  case atStart => exact ⟨0, [], by omega, by omega, rfl, j2.at_ ((Below.refl _ _).alloc (Nat.le_refl _) _), Jr.Good.nil 0, Nat.zero_le _, Nat.le_refl _, Nat.le_refl _, k2.at_ ((Below.refl _ _).alloc (Nat.le_refl _) _), r0, .inr ⟨_, hws, rfl⟩, B2.alloc B2.size _⟩
  case round =>
    clear r0 B2 hws j2 k2 s1 b2 q2
    obtain ⟨k, segs, hk1, hk2, rfl, hj, hG, hu, hsl, htxl, hdk, hrow, hown, hB⟩ := hrel
    have q0 : (0 : Int) ≤ (k : Int) := by omega
    by_cases hmore : k < ts.length ∧ k < 20
    · obtain ⟨hm1, hm2⟩ := hmore
      have d2 : decide ((k : Int) < (ts.length : Int)) = true := decide_eq_true (by omega)
      have d3 : decide ((k : Int) < 20) = true := decide_eq_true (by omega)
      have q1 : (k : Int) < (ts.length : Int) := by omega
      obtain ⟨s0, hs0⟩ : ∃ t, ts[k]? = some t := ⟨_, List.getElem?_eq_getElem hm1⟩
      obtain ⟨g, o, rfl, hg, hcl⟩ := sread_at hT hs0
      have cT : wr.cell? ⟨g, o + k, none⟩ = some (.string ⟨s0.toArray⟩) := (hB.cell (p := ⟨g, o + k, none⟩) hg).trans hcl
      have CU := Lib.hid (fun W => lcut_to s0 300 (z := 300) rfl W)
      have hsz : (s0.take 300).length ≤ 300 := by rw [List.length_take]; omega
      generalize s0.take 300 = s at *
      have hz : (⟨s.toArray⟩ : ByteArray).size = s.length := str_size s
      have hw1 : IntKind.i64.wrap ((k : Int) + 1) = ((k + 1 : Nat) : Int) := by rw [IntWalk.i64_in _ (by omega)]; omega
      have hw2 : IntKind.i64.wrap ((s.length : Int) + 8) = ((s.length + 8 : Nat) : Int) := by rw [IntWalk.i64_in _ (by omega)]; omega
      obtain ⟨U, hU⟩ : ∃ U, U = D.used (Jr.files segs) := ⟨_, rfl⟩
      have hw3 : IntKind.i64.wrap ((r : Int) - (U : Int)) = ((r - U : Nat) : Int) := by rw [IntWalk.i64_in _ (by omega)]; omega
      have US := Lib.hid (fun W (h : DkAt w.heap.size W p (Jr.mk r segs)) => used_to (z := (U : Int)) h (by show D.used (Jr.files segs) ≤ _; omega) (by rw [hU]; rfl))
      by_cases hfit : s.length + 8 + D.used (Jr.files segs) ≤ r
      · obtain ⟨segs', g', t', u', l', x', -, -, a'⟩ := Jr.put_ok hG (by omega) s (by omega)
        have AD := Lib.hid (fun W (h : DkAt w.heap.size W p (Jr.mk r segs)) (hj : JrAt W jb p 0) => jadd_to (z := 0) h hj (by omega) s (by omega) (by show D.used (Jr.files segs) + _ ≤ _; omega) (a' r hfit (by omega)) rfl)
        have tl' : (Jr.texts segs').length ≤ k + 1 := by rw [t', List.length_append, List.length_singleton]; omega
        have hlen : ((Jr.texts segs).map strV).length + 1 ≤ 1000000 := by rw [List.length_map]; omega
        have Htx : Hid ((Jr.texts segs).map strV ++ [strV s] = (Jr.texts segs').map strV) := Lib.hid (by rw [t', List.map_append]; rfl)
        have Hu := Lib.hid (show D.used (Jr.files segs') ≤ r by omega)
        have Hl := Lib.hid (show segs'.length ≤ k + 1 by omega)
        have Hg := Lib.hid g'
        have d4 : decide (((s.length + 8 : Nat) : Int) ≤ ((r - U : Nat) : Int)) = true := decide_eq_true (by omega)
        have d5 : decide (s.length + 8 ≤ r - U) = true := decide_eq_true (by omega)
        have d4' : decide ((s.length : Int) + 8 ≤ ((r - U : Nat) : Int)) = true := decide_eq_true (by omega)
        clear a' x' u' l' t' g' hu hsl htxl hG hfit hU
        go_wp2_with (first | (go_at_call 19; (with_reducible refine (CU.out _).mono ?_); rintro e w3 ⟨rfl, rfl⟩) | (go_at_call 46; (with_reducible refine (US.out _ hdk).mono ?_); rintro e w3 ⟨rfl, b3⟩; have k3 := hdk.at_ b3; have j3 := hj.at_ b3; have hrow3 := hrow.at_ b3; have B3 := hB.trans (b3.mono hB.size)) | (go_at_call 57; (with_reducible refine (AD.out _ k3 j3).mono ?_); rintro e w4 ⟨rfl, k4, s4⟩; have j4 := j3.dstp s4; have hrow4 := hrow3.dstp s4 (by decide) (by decide); have B4 := B3.trans s4.below) | (at_builtin; refine wpList_append_row rfl info_str (.tmp 85) (.tmp 87) 35 rfl Try.underlying35 rfl (hrow4.alloc _) ⟨w4.heap.size, 0, none⟩ 1 1 [strV s] rfl rfl (new_cells _ _ _ rfl _) (str_one [s]) (by omega) ?_; intro v5 w5 hrow5 hg5 hr5))
        rw [Htx.out] at hrow5
        have b45 := (Below.refl w4.heap.size w4).alloc (Nat.le_refl _) (.cells #[strV s] 9)
        have B45 := B4.trans (b45.mono B4.size)
        have B5 := below_grown_own B45 B45.size hg5 hown
        have hown5 := own_later hown B45.size hr5
        have j5 : JrAt w5 jb p 0 := Blk.grownRow (j4.at_ b45) (hrow4.alloc _) (by decide) hg5
        have k5 := (k4.at_ b45).grown (hrow4.alloc _) (by decide) hg5
        go_roundw
        case rel => exact ⟨k + 1, segs', by omega, by omega, rfl, j5, Hg.out, Hu.out, Hl.out, tl', k5, hrow5, hown5, B5⟩
        case measure => simp [intOf]; omega
      · have AD := Lib.hid (fun W (h : DkAt w.heap.size W p (Jr.mk r segs)) (hj : JrAt W jb p 0) => jadd_to (z := 9) h hj (by omega) s (by omega) (by show D.used (Jr.files segs) + _ ≤ _; omega) (Jr.add_full hfit) rfl)
        have d4 : decide (((s.length + 8 : Nat) : Int) ≤ ((r - U : Nat) : Int)) = false := decide_eq_false (by omega)
        have d5 : decide (s.length + 8 ≤ r - U) = false := decide_eq_false (by omega)
        have d4' : decide ((s.length : Int) + 8 ≤ ((r - U : Nat) : Int)) = false := decide_eq_false (by omega)
        have Hu := Lib.hid hu
        have Hl := Lib.hid (show segs.length ≤ k + 1 by omega)
        have Ht := Lib.hid (show (Jr.texts segs).length ≤ k + 1 by omega)
        clear hu hsl htxl hfit hU
        go_wp2_with (first | (go_at_call 19; (with_reducible refine (CU.out _).mono ?_); rintro e w3 ⟨rfl, rfl⟩) | (go_at_call 46; first | ((with_reducible refine (US.out _ k4).mono ?_); rintro e w5 ⟨rfl, b5⟩) | ((with_reducible refine (US.out _ hdk).mono ?_); rintro e w3 ⟨rfl, b3⟩; have k3 := hdk.at_ b3; have j3 := hj.at_ b3; have hrow3 := hrow.at_ b3; have B3 := hB.trans (b3.mono hB.size))) | (go_at_call 57; (with_reducible refine (AD.out _ k3 j3).mono ?_); rintro e w4 ⟨rfl, k4, s4⟩; have j4 := j3.dstp s4; have hrow4 := hrow3.dstp s4 (by decide) (by decide); have B4 := B3.trans s4.below))
        go_roundw
        case rel => exact ⟨k + 1, segs, by omega, by omega, rfl, j4.at_ b5, hG, Hu.out, Hl.out, Ht.out, k4.at_ b5, hrow4.at_ b5, hown, B4.trans (b5.mono B4.size)⟩
        case measure => simp [intOf]; omega
    · have O2 := Lib.hid (fun W (h : DkAt w.heap.size W p (Jr.mk r segs)) => jopen_to (n := Jr.next segs) (T := Jr.texts segs) h rfl rfl hG.1 (by show D.used (Jr.files segs) ≤ _; omega) rfl rfl (L := (Jr.texts segs).length) rfl)
      have hsplit : (decide ((k : Int) < (ts.length : Int)) = false ∧ decide (k < ts.length) = false) ∨ (decide ((k : Int) < (ts.length : Int)) = true ∧ decide (k < ts.length) = true ∧ decide ((k : Int) < 20) = false ∧ decide (k < 20) = false) := by
        by_cases h9 : k < ts.length
        · exact .inr ⟨decide_eq_true (by omega), decide_eq_true (by omega), decide_eq_false (by omega), decide_eq_false (by omega)⟩
        · exact .inl ⟨decide_eq_false (by omega), decide_eq_false (by omega)⟩
      have htl9 : (Jr.texts segs).length ≤ 4611686018427387904 := by omega
      clear hmore hG hu hsl htxl
      generalize Jr.texts segs = T at *
      generalize Jr.next segs = nx at *
      rcases hsplit with ⟨h1, h2⟩ | ⟨h1, h2, h3, h4⟩
      · skip
        go_wp2_with (first | (go_at_call 56; (with_reducible refine (O2.out _ hdk).mono ?_); rintro e w6 ⟨jj, A6, c6, rfl, q6, j6, r6, k6, b6⟩) | (go_at_call 59; (with_reducible refine (AW.out _).mono ?_); rintro e w7 ⟨rfl, b7⟩; have r7 := r6.at_ b7; have r8 := (hrow.at_ b6).at_ b7) | (go_at_call 29; (with_reducible refine (rsame_yes rfl r7.reads r8.reads (by omega)).mono ?_); rintro e w8 ⟨rfl, nq, rfl⟩))
        go_ret
        have B6 := hB.trans (b6.mono hB.size)
        exact ⟨rfl, below_drewN (B6.trans (b7.mono B6.size)) nq⟩
      · skip
        go_wp2_with (first | (go_at_call 56; (with_reducible refine (O2.out _ hdk).mono ?_); rintro e w6 ⟨jj, A6, c6, rfl, q6, j6, r6, k6, b6⟩) | (go_at_call 59; (with_reducible refine (AW.out _).mono ?_); rintro e w7 ⟨rfl, b7⟩; have r7 := r6.at_ b7; have r8 := (hrow.at_ b6).at_ b7) | (go_at_call 29; (with_reducible refine (rsame_yes rfl r7.reads r8.reads (by omega)).mono ?_); rintro e w8 ⟨rfl, nq, rfl⟩))
        go_ret
        have B6 := hB.trans (b6.mono hB.size)
        exact ⟨rfl, below_drewN (B6.trans (b7.mono B6.size)) nq⟩
end Go.Proofs.Ytknkbioalohofaa
