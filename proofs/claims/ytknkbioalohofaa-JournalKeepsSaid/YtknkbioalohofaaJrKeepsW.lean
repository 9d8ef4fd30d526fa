/- The walk of JournalKeeps. -/
import Derived.Test.YtknkbioalohofaaJrG
import Derived.Test.YtknkbioalohofaaOpenI
namespace Go.Proofs.Ytknkbioalohofaa
open Go.RowKit

set_option maxRecDepth 100000 in
set_option maxHeartbeats 8000000 in
theorem jkeeps_walk (ts : List (List UInt8)) (bs : List Bool) (v vb : Value) (w : World) (hT : SRead w v (ts.map strV)) (htl : ts.length ≤ 9223372036854775807) (hV : BoolsAt w vb bs) :
    Calls Try.prog 14 #[v, vb] w fun e w' => e = .returned (.bool true) ∧ Below w.heap.size w w' := by
  obtain ⟨A, c, rfl, hT⟩ := sread_open hT
  obtain ⟨Ab, cb, rfl, hV⟩ := sread_open hV
  have AW := Lib.hid (fun W => jawake_any W)
  have NW := Lib.hid (new_to (M' := Jr.mk 1048576 []) 1048576 (by omega) w rfl)
  have O1 := Lib.hid (fun W p (h : DkAt w.heap.size W p (Jr.mk 1048576 [])) => jopen_to (n := 0) (T := []) h rfl rfl Jr.Up.nil (by decide) rfl rfl (L := 0) rfl)
  go_enter Try.func14, Try.ntmps14
  go_wp2_with (first | (go_at_call 37; (with_reducible refine NW.out.mono ?_); rintro e w1 ⟨p, rfl, k1, s1⟩) | (go_at_call 56; (with_reducible refine (O1.out _ _ k1).mono ?_); rintro e w2 ⟨jb, A2, c2, rfl, q2, j2, r2, k2, b2⟩))
  have r0 : Row1 (w2.alloc (.cells #[] 9)) 9 (.slice (some ⟨w2.heap.size, 0, none⟩) 0 0) [] := Row1.build w2 _ [] #[] 0 rfl rfl (by omega)
  have B2 := s1.trans (b2.mono s1.size)
  have q2' := Nat.le_trans s1.size q2
  have hws : w.heap.size ≤ w2.heap.size := B2.size
  clear NW O1 k1 r2
  go_loopw [6, 9, 10] (fun u t i wr => ∃ (k n jb : Nat) (segs : List Jr.Sg), k ≤ ts.length ∧ k ≤ 20 ∧ n ≤ k ∧ i = .int .i64 (k : Int) ∧ u = .pointer (some ⟨jb, 0, none⟩) ∧ w.heap.size ≤ jb ∧ JrAt wr jb p n ∧ Jr.Good segs n ∧ D.used (Jr.files segs) ≤ 208 * k ∧ segs.length ≤ k ∧ (Jr.texts segs).length ≤ k ∧ DkAt w.heap.size wr p (Jr.mk 1048576 segs) ∧ Row1 wr 9 t ((Jr.texts segs).map strV) ∧ (t.ownBlock = none ∨ ∃ k, w.heap.size ≤ k ∧ t.ownBlock = some k) ∧ Below w.heap.size w wr) (fun _ _ i _ => 20 - (intOf i).toNat)
  case atStart => exact ⟨0, 0, jb, [], by omega, by omega, by omega, rfl, rfl, q2', j2.at_ ((Below.refl _ _).alloc (Nat.le_refl _) _), Jr.Good.nil 0, Nat.le_refl _, Nat.le_refl _, Nat.le_refl _, k2.at_ ((Below.refl _ _).alloc (Nat.le_refl _) _), r0, .inr ⟨_, hws, rfl⟩, B2.alloc B2.size _⟩
  case round =>
    clear r0 B2 q2' hws j2 k2 s1 b2 q2
    obtain ⟨k, n, jb, segs, hk1, hk2, hnk, rfl, rfl, hjb, hj, hG, hu, hsl, htxl, hdk, hrow, hown, hB⟩ := hrel
    have q0 : (0 : Int) ≤ (k : Int) := by omega
    by_cases hmore : k < ts.length ∧ k < 20
    · obtain ⟨hm1, hm2⟩ := hmore
      have d2 : decide ((k : Int) < (ts.length : Int)) = true := decide_eq_true (by omega)
      have d3 : decide ((k : Int) < 20) = true := decide_eq_true (by omega)
      have q1 : (k : Int) < (ts.length : Int) := by omega
      obtain ⟨s0, hs0⟩ : ∃ t, ts[k]? = some t := ⟨_, List.getElem?_eq_getElem hm1⟩
      obtain ⟨g, o, rfl, hg, hcl⟩ := sread_at hT hs0
      have cT : wr.cell? ⟨g, o + k, none⟩ = some (.string ⟨s0.toArray⟩) := (hB.cell (p := ⟨g, o + k, none⟩) hg).trans hcl
      have CU := Lib.hid (fun W => lcut_to s0 200 (z := 200) rfl W)
      have hsz : (s0.take 200).length ≤ 200 := by rw [List.length_take]; omega
      generalize s0.take 200 = s at *
      have hw1 : IntKind.i64.wrap ((k : Int) + 1) = ((k + 1 : Nat) : Int) := by rw [IntWalk.i64_in _ (by omega)]; omega
      obtain ⟨segs', g', t', u', l', x', -, -, a'⟩ := Jr.put_ok hG (by omega) s (by omega)
      have AD := Lib.hid (jadd_to (z := 0) hdk hj (by omega) s (by omega) (by show D.used (Jr.files segs) + _ ≤ _; omega) (a' 1048576 (by omega) (by omega)) rfl)
      have tl' : (Jr.texts segs').length ≤ k + 1 := by rw [t', List.length_append, List.length_singleton]; omega
      have hlen : ((Jr.texts segs).map strV).length + 1 ≤ 1000000 := by rw [List.length_map]; omega
      have O2 := Lib.hid (fun W (h : DkAt w.heap.size W p (Jr.mk 1048576 segs')) => jopen_to (n := n + 1) (T := Jr.texts segs') h rfl rfl g'.1 (by show D.used (Jr.files segs') ≤ _; omega) x' rfl (L := (Jr.texts segs').length) rfl)
      have Htx : Hid ((Jr.texts segs).map strV ++ [strV s] = (Jr.texts segs').map strV) := Lib.hid (by rw [t', List.map_append]; rfl)
      have Hu := Lib.hid (show D.used (Jr.files segs') ≤ 208 * (k + 1) by omega)
      have Hl := Lib.hid (show segs'.length ≤ k + 1 by omega)
      have Hg := Lib.hid g'
      have d6 : decide (((n + 1 : Nat) : Int) ≤ (n : Int)) = false := decide_eq_false (by omega)
      clear a' x' u' l' t' g' hu hsl htxl hG
      have hbcase : (decide ((k : Int) < (bs.length : Int)) = false ∧ decide (k < bs.length) = false) ∨ ∃ b gb ob, Ab = some ⟨gb, ob, none⟩ ∧ gb < w.heap.size ∧ w.cell? ⟨gb, ob + k, none⟩ = some (.bool b) ∧ (k : Int) < (bs.length : Int) ∧ decide ((k : Int) < (bs.length : Int)) = true ∧ decide (k < bs.length) = true := by
        by_cases h9 : k < bs.length
        · obtain ⟨b, hb⟩ : ∃ t, bs[k]? = some t := ⟨_, List.getElem?_eq_getElem h9⟩
          obtain ⟨gb, ob, e, hgb, hcb⟩ := sread_at hV hb
          exact .inr ⟨b, gb, ob, e, hgb, hcb, by omega, decide_eq_true (by omega), decide_eq_true h9⟩
        · exact .inl ⟨decide_eq_false (by omega), decide_eq_false h9⟩
      rcases hbcase with ⟨h4, h5⟩ | ⟨b, gb, ob, rfl, hgb, hcb, h3, h4, h5⟩
      · skip
        go_wp2_with (first | (go_at_call 19; (with_reducible refine (CU.out _).mono ?_); rintro e w3 ⟨rfl, rfl⟩) | (go_at_call 57; (with_reducible refine AD.out.mono ?_); rintro e w4 ⟨rfl, k4, s4⟩; have j4 := hj.dstp s4; have hrow4 := hrow.dstp s4 (by decide) (by decide); have B4 := hB.trans s4.below) | (at_builtin; refine wpList_append_row rfl info_str (.tmp 51) (.tmp 53) 35 rfl Try.underlying35 rfl (hrow4.alloc _) ⟨w4.heap.size, 0, none⟩ 1 1 [strV s] rfl rfl (new_cells _ _ _ rfl _) (str_one [s]) (by omega) ?_; intro v5 w5 hrow5 hg5 hr5; rw [Htx.out] at hrow5; have b45 := (Below.refl w4.heap.size w4).alloc (Nat.le_refl _) (.cells #[strV s] 9); have B45 := B4.trans (b45.mono B4.size); have B5 := below_grown_own B45 B45.size hg5 hown; have hown5 := own_later hown B45.size hr5; have j5 : JrAt w5 jb p n := Blk.grownRow (j4.at_ b45) (hrow4.alloc _) (by decide) hg5; have k5 := (k4.at_ b45).grown (hrow4.alloc _) (by decide) hg5; (try have cB5 := (B5.cell (p := ⟨gb, ob + k, none⟩) hgb).trans hcb)) | (go_at_call 56; (with_reducible refine (O2.out _ k5).mono ?_); rintro e w6 ⟨jj, A6, c6, rfl, q6, j6, r6, k6, b6⟩; have j56 := j5.at_ b6) | (go_at_call 29; (with_reducible refine (rsame_yes rfl r6.reads (hrow5.at_ b6).reads (by omega)).mono ?_); rintro e w8 ⟨rfl, nq, rfl⟩) | (go_at_call 58; first | ((with_reducible refine (now_any (j6.at_ (below_drewN (Below.refl _ _) nq))).mono ?_); rintro e w7 ⟨rfl, rfl⟩) | ((with_reducible refine (now_any (j56.at_ (below_drewN (Below.refl _ _) nq))).mono ?_); rintro e w7 ⟨rfl, rfl⟩)))
        go_roundw
        case rel => exact ⟨k + 1, n, jb, segs', by omega, by omega, by omega, rfl, rfl, hjb, j5, Hg.out, Hu.out, Hl.out, tl', k5, hrow5, hown5, B5⟩
        case measure => simp [intOf]; omega
      · cases b with
        | false =>
          go_wp2_with (first | (go_at_call 19; (with_reducible refine (CU.out _).mono ?_); rintro e w3 ⟨rfl, rfl⟩) | (go_at_call 57; (with_reducible refine AD.out.mono ?_); rintro e w4 ⟨rfl, k4, s4⟩; have j4 := hj.dstp s4; have hrow4 := hrow.dstp s4 (by decide) (by decide); have B4 := hB.trans s4.below) | (at_builtin; refine wpList_append_row rfl info_str (.tmp 51) (.tmp 53) 35 rfl Try.underlying35 rfl (hrow4.alloc _) ⟨w4.heap.size, 0, none⟩ 1 1 [strV s] rfl rfl (new_cells _ _ _ rfl _) (str_one [s]) (by omega) ?_; intro v5 w5 hrow5 hg5 hr5; rw [Htx.out] at hrow5; have b45 := (Below.refl w4.heap.size w4).alloc (Nat.le_refl _) (.cells #[strV s] 9); have B45 := B4.trans (b45.mono B4.size); have B5 := below_grown_own B45 B45.size hg5 hown; have hown5 := own_later hown B45.size hr5; have j5 : JrAt w5 jb p n := Blk.grownRow (j4.at_ b45) (hrow4.alloc _) (by decide) hg5; have k5 := (k4.at_ b45).grown (hrow4.alloc _) (by decide) hg5; (try have cB5 := (B5.cell (p := ⟨gb, ob + k, none⟩) hgb).trans hcb)) | (go_at_call 56; (with_reducible refine (O2.out _ k5).mono ?_); rintro e w6 ⟨jj, A6, c6, rfl, q6, j6, r6, k6, b6⟩; have j56 := j5.at_ b6) | (go_at_call 29; (with_reducible refine (rsame_yes rfl r6.reads (hrow5.at_ b6).reads (by omega)).mono ?_); rintro e w8 ⟨rfl, nq, rfl⟩) | (go_at_call 58; first | ((with_reducible refine (now_any (j6.at_ (below_drewN (Below.refl _ _) nq))).mono ?_); rintro e w7 ⟨rfl, rfl⟩) | ((with_reducible refine (now_any (j56.at_ (below_drewN (Below.refl _ _) nq))).mono ?_); rintro e w7 ⟨rfl, rfl⟩)))
          go_roundw
          case rel => exact ⟨k + 1, n, jb, segs', by omega, by omega, by omega, rfl, rfl, hjb, j5, Hg.out, Hu.out, Hl.out, tl', k5, hrow5, hown5, B5⟩
          case measure => simp [intOf]; omega
        | true =>
          go_wp2_with (first | (go_at_call 19; (with_reducible refine (CU.out _).mono ?_); rintro e w3 ⟨rfl, rfl⟩) | (go_at_call 57; (with_reducible refine AD.out.mono ?_); rintro e w4 ⟨rfl, k4, s4⟩; have j4 := hj.dstp s4; have hrow4 := hrow.dstp s4 (by decide) (by decide); have B4 := hB.trans s4.below) | (at_builtin; refine wpList_append_row rfl info_str (.tmp 51) (.tmp 53) 35 rfl Try.underlying35 rfl (hrow4.alloc _) ⟨w4.heap.size, 0, none⟩ 1 1 [strV s] rfl rfl (new_cells _ _ _ rfl _) (str_one [s]) (by omega) ?_; intro v5 w5 hrow5 hg5 hr5; rw [Htx.out] at hrow5; have b45 := (Below.refl w4.heap.size w4).alloc (Nat.le_refl _) (.cells #[strV s] 9); have B45 := B4.trans (b45.mono B4.size); have B5 := below_grown_own B45 B45.size hg5 hown; have hown5 := own_later hown B45.size hr5; have j5 : JrAt w5 jb p n := Blk.grownRow (j4.at_ b45) (hrow4.alloc _) (by decide) hg5; have k5 := (k4.at_ b45).grown (hrow4.alloc _) (by decide) hg5; (try have cB5 := (B5.cell (p := ⟨gb, ob + k, none⟩) hgb).trans hcb)) | (go_at_call 56; (with_reducible refine (O2.out _ k5).mono ?_); rintro e w6 ⟨jj, A6, c6, rfl, q6, j6, r6, k6, b6⟩; have j56 := j5.at_ b6) | (go_at_call 29; (with_reducible refine (rsame_yes rfl r6.reads (hrow5.at_ b6).reads (by omega)).mono ?_); rintro e w8 ⟨rfl, nq, rfl⟩) | (go_at_call 58; first | ((with_reducible refine (now_any (j6.at_ (below_drewN (Below.refl _ _) nq))).mono ?_); rintro e w7 ⟨rfl, rfl⟩) | ((with_reducible refine (now_any (j56.at_ (below_drewN (Below.refl _ _) nq))).mono ?_); rintro e w7 ⟨rfl, rfl⟩)))
          have B6 := B5.trans (b6.mono B5.size)
          have B7 := below_drewN B6 nq
          go_roundw
          case rel => exact ⟨k + 1, n + 1, jj, segs', by omega, by omega, by omega, rfl, rfl, Nat.le_trans B5.size q6, j6.at_ (below_drewN (Below.refl _ _) nq), Hg.out.later (Nat.le_succ _), Hu.out, Hl.out, tl', k6.at_ (below_drewN (Below.refl _ _) nq), (hrow5.at_ b6).at_ (below_drewN (Below.refl _ _) nq), hown5, B7⟩
          case measure => simp [intOf]; omega
    · have O2 := Lib.hid (fun W (h : DkAt w.heap.size W p (Jr.mk 1048576 segs)) => jopen_to (n := Jr.next segs) (T := Jr.texts segs) h rfl rfl hG.1 (by show D.used (Jr.files segs) ≤ _; omega) rfl rfl (L := (Jr.texts segs).length) rfl)
      have hsplit : (decide ((k : Int) < (ts.length : Int)) = false ∧ decide (k < ts.length) = false) ∨ (decide ((k : Int) < (ts.length : Int)) = true ∧ decide (k < ts.length) = true ∧ decide ((k : Int) < 20) = false ∧ decide (k < 20) = false) := by
        by_cases h9 : k < ts.length
        · exact .inr ⟨decide_eq_true (by omega), decide_eq_true (by omega), decide_eq_false (by omega), decide_eq_false (by omega)⟩
        · exact .inl ⟨decide_eq_false (by omega), decide_eq_false (by omega)⟩
      have htl9 : (Jr.texts segs).length ≤ 4611686018427387904 := by omega
      clear hmore hG hu hsl htxl
      generalize Jr.texts segs = T at *
      generalize Jr.next segs = nx at *
      rcases hsplit with ⟨h1, h2⟩ | ⟨h1, h2, h3, h4⟩
      · skip
        go_wp2_with (first | (go_at_call 56; (with_reducible refine (O2.out _ hdk).mono ?_); rintro e w6 ⟨jj, A6, c6, rfl, q6, j6, r6, k6, b6⟩) | (go_at_call 59; (with_reducible refine (AW.out _).mono ?_); rintro e w7 ⟨rfl, b7⟩; have r7 := r6.at_ b7; have r8 := (hrow.at_ b6).at_ b7) | (go_at_call 29; (with_reducible refine (rsame_yes rfl r7.reads r8.reads (by omega)).mono ?_); rintro e w8 ⟨rfl, nq, rfl⟩))
        go_ret
        have B6 := hB.trans (b6.mono hB.size)
        exact ⟨rfl, below_drewN (B6.trans (b7.mono B6.size)) nq⟩
      · skip
        go_wp2_with (first | (go_at_call 56; (with_reducible refine (O2.out _ hdk).mono ?_); rintro e w6 ⟨jj, A6, c6, rfl, q6, j6, r6, k6, b6⟩) | (go_at_call 59; (with_reducible refine (AW.out _).mono ?_); rintro e w7 ⟨rfl, b7⟩; have r7 := r6.at_ b7; have r8 := (hrow.at_ b6).at_ b7) | (go_at_call 29; (with_reducible refine (rsame_yes rfl r7.reads r8.reads (by omega)).mono ?_); rintro e w8 ⟨rfl, nq, rfl⟩))
        go_ret
        have B6 := hB.trans (b6.mono hB.size)
        exact ⟨rfl, below_drewN (B6.trans (b7.mono B6.size)) nq⟩
end Go.Proofs.Ytknkbioalohofaa
