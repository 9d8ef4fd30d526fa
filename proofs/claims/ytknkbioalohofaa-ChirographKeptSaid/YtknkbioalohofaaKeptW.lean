/- The walk of ChirographKept. -/
import Derived.Test.YtknkbioalohofaaKpA
import Derived.Test.YtknkbioalohofaaWNCheckD
import Derived.Test.YtknkbioalohofaaWAll
import Derived.Test.YtknkbioalohofaaWWrap
import Derived.Test.YtknkbioalohofaaOpenI
namespace Go.Proofs.Ytknkbioalohofaa
open Go.RowKit

theorem check_nil : (N.check []).2 = 5 := rfl
set_option maxRecDepth 100000 in
set_option maxHeartbeats 16000000 in
theorem kept_walk (is ts : List (List UInt8)) (ss : List Bool) (lk : List Int) (vi vt vs vk : Value) (w : World) (hI : SRead w vi (is.map strV)) (hT : SRead w vt (ts.map strV)) (hS : BoolsAt w vs ss) (hK : IntsAt w vk lk)
    (hwk : ∀ a ∈ lk, -9223372036854775808 ≤ a ∧ a < 9223372036854775808) (hkl : lk.length ≤ 9223372036854775807) :
    Calls Try.prog 18 #[vi, vt, vs, vk] w fun e w' => e = .returned (.bool true) ∧ Below w.heap.size w w' := by
  have NW := Lib.hid (new_to (M' := ⟨1048576, -1, false, []⟩) 1048576 (by omega) w rfl)
  have A0 := Lib.hid (fun W p (h : DkAt w.heap.size W p ⟨1048576, -1, false, []⟩) => append_to (z := 0) (M' := ⟨1048576, -1, false, [⟨[120], [121], 0⟩]⟩) h [120] [121] (by simp) (by simp) (by decide) rfl rfl)
  have R0 := Lib.hid (fun W p (h : DkAt w.heap.size W p ⟨1048576, -1, false, [⟨[120], [121], 0⟩]⟩) => remove_to (z := 0) (M' := ⟨1048576, -1, false, []⟩) h [120] (by simp) rfl rfl)
  obtain ⟨Ai, ci, rfl, hci, hcelli⟩ := hI
  have hlmi : (is.map strV).length = is.length := List.length_map _
  rw [hlmi] at hci ⊢
  obtain ⟨At, ct, rfl, hct, hcellt⟩ := hT
  have hlmt : (ts.map strV).length = ts.length := List.length_map _
  rw [hlmt] at hct ⊢
  obtain ⟨As, cs, rfl, hcs, hcells⟩ := hS
  have hlms : (ss.map Value.bool).length = ss.length := List.length_map _
  rw [hlms] at hcs ⊢
  go_enter Try.func18, Try.ntmps18
  go_wp2_with (first | (go_at_call 37; (with_reducible refine (NW.out).mono ?_); rintro e w1 ⟨p, rfl, k1, s1⟩) | (go_at_call 38; (with_reducible refine (A0.out _ _ k1).mono ?_); rintro e w2 ⟨rfl, k2, s2⟩) | (go_at_call 47; (with_reducible refine (R0.out _ _ k2).mono ?_); rintro e w3 ⟨rfl, k3, s3⟩; have hB3 : Below w.heap.size w w3 := s1.trans (s2.below.trans s3.below); have r0 : KAt (w3.alloc (.cells #[] 106)) (.slice (some ⟨w3.heap.size, 0, none⟩) 0 0) [] := ⟨RowN.build w3 _ 3 [] #[] 0 rfl (by simp) rfl (by omega), by simp⟩; have k4 := k3.at_ ((Below.refl w3.heap.size w3).alloc (Nat.le_refl _) (.cells #[] 106)); have hB4 := hB3.alloc hB3.size (.cells #[] 106)))
  clear s1 s2 s3 k1 k2 A0 R0 NW
  go_loopw [10, 11] (fun u i wr => ∃ (k : Nat) (M : D.Dk) (L : List Kv), i = .int .i64 (k : Int) ∧ k ≤ is.length ∧ k ≤ 20 ∧ KAt wr u L ∧ (u.ownBlock = none ∨ ∃ k, w.heap.size ≤ k ∧ u.ownBlock = some k) ∧ DkAt w.heap.size wr p M ∧ K.J k M (L.map Prod.fst) ∧ Below w.heap.size w wr) (fun _ i _ => 20 - (intOf i).toNat)
  case atStart => exact ⟨0, _, [], rfl, by omega, by omega, r0, .inr ⟨_, hB3.size, rfl⟩, k4, K.J.start, hB4⟩
  case round =>
    clear r0 k4 hB4 hB3 k3
    obtain ⟨k, M, L, rfl, hk1, hk2, hL, hown, k1, hJ, s1⟩ := hrel
    obtain ⟨A, m, c, rfl, hm, hL⟩ := kat_open hL
    replace hJ := Lib.hid hJ
    replace hm := Lib.hid hm
    have j0 : (0 : Int) ≤ (k : Int) := by omega
    by_cases hmore : k < is.length ∧ k < ts.length ∧ k < 20
    · obtain ⟨hm1, hm2, hm3⟩ := hmore
      have d1 : decide ((k : Int) < (is.length : Int)) = true := decide_eq_true (by omega)
      have d1' : decide (k < is.length) = true := decide_eq_true (by omega)
      have d2 : decide ((k : Int) < (ts.length : Int)) = true := decide_eq_true (by omega)
      have d2' : decide (k < ts.length) = true := decide_eq_true (by omega)
      have d3 : decide ((k : Int) < 20) = true := decide_eq_true (by omega)
      have j1 : (k : Int) < (is.length : Int) := by omega
      have j2 : (k : Int) < (ts.length : Int) := by omega
      obtain ⟨x, hx⟩ : ∃ t, is[k]? = some t := ⟨_, List.getElem?_eq_getElem hm1⟩
      obtain ⟨y, hy⟩ : ∃ t, ts[k]? = some t := ⟨_, List.getElem?_eq_getElem hm2⟩
      obtain ⟨gi, oi, rfl, hgi, hcli⟩ : ∃ g o, Ai = some ⟨g, o, none⟩ ∧ g < w.heap.size ∧ ∀ j u, (is.map strV)[j]? = some u → w.cell? ⟨g, o + j, none⟩ = some u := by
        rcases hcelli with e | e
        · exfalso
          have h9 : is.length = 0 := by rw [← hlmi, e]; rfl
          omega
        · exact e
      obtain ⟨gt, ot, rfl, hgt, hclt⟩ : ∃ g o, At = some ⟨g, o, none⟩ ∧ g < w.heap.size ∧ ∀ j u, (ts.map strV)[j]? = some u → w.cell? ⟨g, o + j, none⟩ = some u := by
        rcases hcellt with e | e
        · exfalso
          have h9 : ts.length = 0 := by rw [← hlmt, e]; rfl
          omega
        · exact e
      have cI : wr.cell? ⟨gi, oi + k, none⟩ = some (.string ⟨x.toArray⟩) := (s1.cell (p := ⟨gi, oi + k, none⟩) hgi).trans (hcli k _ (by rw [List.getElem?_map, hx]; rfl))
      have cTW := Lib.hid (fun W (hW : Below w.heap.size w W) => ((hW.cell (p := ⟨gt, ot + k, none⟩) hgt).trans (hclt k _ (by rw [List.getElem?_map, hy]; rfl)) : W.cell? ⟨gt, ot + k, none⟩ = some (.string ⟨y.toArray⟩)))
      have CX := Lib.hid (fun W => lcut_to x 60 (z := 60) rfl W)
      have CY := Lib.hid (fun W => lcut_to y 60 (z := 60) rfl W)
      have hxl : (x.take 60).length ≤ 60 := by rw [List.length_take]; omega
      have hyl : (y.take 60).length ≤ 60 := by rw [List.length_take]; omega
      have hw1 : IntKind.i64.wrap ((k : Int) + 1) = ((k + 1 : Nat) : Int) := by rw [IntWalk.i64_in _ (by omega)]; omega
      clear hcli hcelli hclt hcellt hx hy
      generalize x.take 60 = id at *
      generalize y.take 60 = t at *
      have CC := Lib.hid (fun W => ncheck_any id W (by omega))
      have WP := Lib.hid (fun W => wrap_any t (by omega) W)
      have hnid : ¬ (N.check id).2 = 0 ∨ 0 < id.length := by
        cases id with
        | nil => left; rw [check_nil]; omega
        | cons _ _ => right; simp
      generalize (N.check id).1 = e1 at *
      generalize (N.check id).2 = e2 at *
      by_cases hid : e2 = 0
      · have hid0 : 0 < id.length := by omega
        have d4 : (((e2 : Nat) : Int) != 0) = false := by rw [hid]; rfl
        obtain ⟨M1, hap, hadd⟩ := hJ.out.add hm3 hid0 hxl hyl
        have hus := hJ.out.used
        have hwl := C.wrap_length t
        have AP := Lib.hid (fun W (h : DkAt w.heap.size W p M) => append_to (z := 0) (M' := M1) h id (C.wrap t) (by omega) (by omega) (by omega) (by rw [hap]) (by rw [hap]; rfl))
        have hadd := Lib.hid hadd
        have Hid0 := Lib.hid hid0
        clear hap hus hwl hid hnid
        generalize C.wrap t = fr at *
        go_wp2_with (first | (go_at_call 19; first | ((with_reducible refine (CX.out _).mono ?_); rintro e w9 ⟨rfl, rfl⟩) | ((with_reducible refine (CY.out _).mono ?_); rintro e w9 ⟨rfl, rfl⟩)) | (go_at_call 66; (with_reducible refine (CC.out _).mono ?_); rintro e w2 ⟨rfl, s2⟩; have hW2 := s1.trans (s2.mono s1.size); have cT2 := cTW.out w2 hW2) | (go_at_call 20; (with_reducible refine (WP.out _).mono ?_); rintro e w3 ⟨rfl, s3⟩; have k3 := (k1.at_ s2).at_ s3) | (go_at_call 38; (with_reducible refine (AP.out _ k3).mono ?_); rintro e w4 ⟨rfl, k4, s4⟩; have hW4 := hW2.trans ((s3.mono hW2.size).trans s4.below); have hL4 := ((hL.at_ s2).at_ s3).dstp s4))
        clear s2 s3 s4 k3 k1 hL cT2 AP WP CC CX CY hW2 s1 cI hw1
        have hw1 := Lib.hid (show IntKind.i64.wrap ((k : Int) + 1) = ((k + 1 : Nat) : Int) by rw [IntWalk.i64_in _ (by omega)]; omega)
        clear d1 d1' d2 d2' d3 d4 j1 j2
        have hown4 := hown
        have Hm3 := Lib.hid (show k + 1 ≤ 20 by omega)
        have Hm1 := Lib.hid (show k + 1 ≤ is.length by omega)
        have hm21 : m ≤ 20 := by have h1 := hJ.out.few; have h2 := hm.out; rw [List.length_map] at h1; omega
        go_loop [18, 90] (fun a b => ∃ (j : Nat) (a0 : Value), a0 = a ∧ j ≤ m ∧ b = .int .i64 (j : Int) ∧ Hid ((a0 = .int .i64 (-1) ∧ ∀ (q : Nat) (z : Kv), q < j → L[q]? = some z → z.1.id ≠ id) ∨ ∃ (q : Nat) (z : Kv), a0 = .int .i64 (q : Int) ∧ q < j ∧ L[q]? = some z ∧ z.1.id = id)) (fun _ b => m - (intOf b).toNat)
        case atStart => exact ⟨0, _, rfl, Nat.zero_le _, rfl, Lib.hid (.inl ⟨rfl, fun q z hq => by omega⟩)⟩
        case round =>
          obtain ⟨j, a0, rfl, hj, rfl, hin⟩ := hrel
          have i0 : (0 : Int) ≤ (j : Int) := by omega
          by_cases hjm : j < m
          · have e1 : decide ((j : Int) < (m : Int)) = true := decide_eq_true (by omega)
            have e1' : decide (j < m) = true := decide_eq_true (by omega)
            have i1 : (j : Int) < (m : Int) := by omega
            have hq : IntKind.i64.wrap ((j : Int) + 1) = ((j + 1 : Nat) : Int) := by rw [IntWalk.i64_in _ (by omega)]; omega
            obtain ⟨z, hz⟩ : ∃ z, L[j]? = some z := ⟨_, List.getElem?_eq_getElem (by have := hm.out; omega)⟩
            obtain ⟨g, rfl, hg, _⟩ := kat_get hL4 hz
            obtain ⟨b0, b1, b2⟩ := kat_cells hL4 (k := z.1) (tv := z.2) hz
            have hz := Lib.hid hz
            by_cases he : z.1.id = id
            · have f1 : (z.1.id == id) = true := by rw [he]; simp
              have hin2 : Hid (((Value.int .i64 (j : Int)) = .int .i64 (-1) ∧ ∀ (q : Nat) (z : Kv), q < j + 1 → L[q]? = some z → z.1.id ≠ id) ∨ ∃ (q : Nat) (z : Kv), (Value.int .i64 (j : Int)) = .int .i64 (q : Int) ∧ q < j + 1 ∧ L[q]? = some z ∧ z.1.id = id) := Lib.hid (.inr ⟨j, z, rfl, by omega, hz.out, he⟩)
              clear he hin hjm b1 b2
              generalize z.1.id = zi at *
              go_wp2
              exact ⟨⟨j + 1, _, rfl, by omega, by go_num, hin2⟩, by simp [intOf]; omega⟩
            · have f1 : (z.1.id == id) = false := by rw [beq_eq_false_iff_ne]; exact he
              have hin2 : Hid ((a0 = .int .i64 (-1) ∧ ∀ (q : Nat) (z : Kv), q < j + 1 → L[q]? = some z → z.1.id ≠ id) ∨ ∃ (q : Nat) (z : Kv), a0 = .int .i64 (q : Int) ∧ q < j + 1 ∧ L[q]? = some z ∧ z.1.id = id) := by
                refine Lib.hid (hin.out.imp (fun h => ⟨h.1, fun q z' hq' hz' => ?_⟩) (fun ⟨q, z', h1, h2, h3⟩ => ⟨q, z', h1, by omega, h3⟩))
                rcases Nat.lt_or_ge q j with h9 | h9
                · exact h.2 q z' h9 hz'
                · have : q = j := by omega
                  subst this
                  rw [hz.out] at hz'
                  injection hz' with hz'
                  rw [← hz']; exact he
              clear he hin hjm b1 b2
              generalize z.1.id = zi at *
              go_wp2
              exact ⟨⟨j + 1, _, rfl, by omega, by go_num, hin2⟩, by simp [intOf]; omega⟩
          · have e1 : decide ((j : Int) < (m : Int)) = false := decide_eq_false (by omega)
            have e1' : decide (j < m) = false := decide_eq_false (by omega)
            have hjm : j = m := by omega
            subst hjm
            rcases hin.out with ⟨rfl, hno⟩ | ⟨q, z, rfl, hqj, hz, hzid⟩
            · have f0 : K.Into (L.map Prod.fst) id ((L ++ [((⟨id, [], 0⟩ : K.Kp), Value.slice none 0 0)]).map Prod.fst) j ⟨id, [], 0⟩ := .inr ⟨by rw [List.map_append]; rfl, by rw [hm.out, List.length_map], rfl, fun u hu => by
                obtain ⟨z, hz, rfl⟩ := List.mem_map.1 hu
                obtain ⟨q, hq⟩ := List.getElem?_of_mem hz
                exact hno q z (by have := (List.getElem?_eq_some_iff.1 hq).1; have := hm.out; omega) hq⟩
              have f0 := Lib.hid f0
              have hz : (L ++ [((⟨id, [], 0⟩ : K.Kp), Value.slice none 0 0)])[j]? = some (⟨id, [], 0⟩, .slice none 0 0) := by rw [hm.out, List.getElem?_append_right (Nat.le_refl _), Nat.sub_self]; rfl
              replace hz := Lib.hid hz
              have hrow4 := hL4.1
              have hlm : ((L.map fun x => kpC x.1 x.2).length + 1) * 48 ≤ 140737488355328 := by rw [List.length_map, ← hm.out]; omega
              clear hno hin
              have hl2 : (([] : List Value).length + 1) * 16 ≤ 140737488355328 := by simp
              have i0 : (0 : Int) ≤ (j : Int) := by omega
              have hJ1 := hadd.out _ _ _ f0.out
              obtain ⟨n6, hn6⟩ : ∃ n, n = ([] ++ [t]).length := ⟨_, rfl⟩
              have Hn60 := Lib.hid (show 0 < n6 by rw [hn6, List.length_append, List.length_singleton]; omega)
              have Hn6 := Lib.hid hn6
              have HJ1 := Lib.hid hJ1
              have hw1 := hw1.out
              clear hn6
              by_cases hs : k < ss.length
              · have c1 : decide ((k : Int) < (ss.length : Int)) = true := decide_eq_true (by omega)
                have c1' : decide (k < ss.length) = true := decide_eq_true (by omega)
                have j3 : (k : Int) < (ss.length : Int) := by omega
                obtain ⟨gS, oS, rfl, hgS, hclS⟩ : ∃ g o, As = some ⟨g, o, none⟩ ∧ g < w.heap.size ∧ ∀ j u, (ss.map Value.bool)[j]? = some u → w.cell? ⟨g, o + j, none⟩ = some u := by
                  rcases hcells with e | e
                  · exfalso
                    have h9 : ss.length = 0 := by rw [← hlms, e]; rfl
                    omega
                  · exact e
                obtain ⟨b, hb⟩ : ∃ b, ss[k]? = some b := ⟨_, List.getElem?_eq_getElem hs⟩
                have cS := Lib.hid (fun W (hW : Below w.heap.size w W) => ((hW.cell (p := ⟨gS, oS + k, none⟩) hgS).trans (hclS k _ (by rw [List.getElem?_map, hb]; rfl)) : W.cell? ⟨gS, oS + k, none⟩ = some (.bool b)))
                try have hne1 : ¬ gS = g := by omega
                try have hne2 : ¬ g = gS := by omega
                clear hclS hcells hb
                cases b with
                | false =>
                  clear hJ1 hs
                  go_wp2_with (first | (at_builtin; (refine wpList_append_rowN rfl info_kept (.tmp 106) (.tmp 109) 102 rfl Try.underlying102 rfl (RowN.alloc hrow4 _) ⟨w4.heap.size, 0, none⟩ 1 1 [kpC ⟨id, [], 0⟩ (.slice none 0 0)] rfl rfl (by simp [kpC]) (new_cellsN w4 _ _ rfl _) (one_kpC _) hlm ?_; intro v5 w5 r5 g5 o5; have hLq := kat_push (KAt.at_ hL4 (below_alloc1 w4 _)) g5 rfl r5; have hWq := below_grown_own (hW4.alloc hW4.size (.cells #[.string ⟨id.toArray⟩, .slice none 0 0, .int .i64 0] 106)) (Nat.le_trans hW4.size (by rw [World.size_alloc]; omega)) g5 hown4; have hown5 := own_later hown4 (Nat.le_trans hW4.size (by rw [World.size_alloc]; omega)) o5; have kq := (DkAt.at_ k4 (below_alloc1 w4 (.cells #[.string ⟨id.toArray⟩, .slice none 0 0, .int .i64 0] 106))).grownN (RowN.alloc hrow4 _) ⟨by decide, by decide, by decide⟩ g5; obtain ⟨A5, m5, c5, rfl, hm5, hLq⟩ := kat_open hLq; obtain ⟨g, rfl, hg, -⟩ := kat_get hLq hz.out; obtain ⟨-, b1, -⟩ := kat_cells hLq hz.out; have q5 : (j : Int) < (m5 : Int) := (by have := (List.getElem?_eq_some_iff.1 hz.out).1; omega); clear hm5; have hgw : w.heap.size ≤ g := own_geK hown5; have hap := fun ty => append_nil_str w5.heap.size 0 ty (w5.alloc (.cells #[] 9)); try (have hne1 : ¬ gS = g := by omega); try (have hne2 : ¬ g = gS := by omega))) | (at_builtin; (refine wpList_append_row rfl info_str (.tmp 119) (.tmp 121) 35 rfl Try.underlying35 rfl (Row1.alloc (Row1.build w5 9 [] #[] 0 rfl rfl (by omega)) _) ⟨w5.heap.size + 1, 0, none⟩ 1 1 [strV t] rfl rfl (new_cellsB w5 _ _ _ rfl _) (str_one [t]) hl2 ?_; intro v6 w6 r6 g6 o6; have hb6 : Below w5.heap.size w5 w6 := below_grown_own ((below_alloc1 w5 _).alloc (by rw [World.size_alloc]; omega) _) (by rw [World.size_alloc, World.size_alloc]; omega) g6 (.inr ⟨_, Nat.le_refl _, rfl⟩); replace r6 := row_text0 r6; obtain ⟨g7, c7, rfl, _⟩ := r6.form_len (n := n6) (by rw [List.length_map]; exact Hn6.out.symm) Hn60.out; have hLq6 := hLq.at_ hb6; obtain ⟨-, x1, -⟩ := kat_cells hLq6 hz.out; have x2 := kat_free hLq6 (j * 3 + 1); have hL7 := KAt.more hLq hb6 hz.out r6; have k7 := dk_set (kq.at_ hb6) hLq6 (j * 3 + 1) (.slice (some ⟨g7, 0, none⟩) n6 c7); have hB6 := hWq.trans (hb6.mono hWq.size); have hB7 : Below w.heap.size w (w6.setCell ⟨g, j * 3 + 1, none⟩ (.slice (some ⟨g7, 0, none⟩) n6 c7)) := (Only.setCell w6 g (j * 3 + 1) _).below hB6 hgw; try have cS6 := cS.out _ hB6)))
                  go_roundw
                  case rel => exact ⟨k + 1, M1, _, rfl, Hm1.out, Hm3.out, hL7, hown5, k7, by rw [kp_fst]; exact HJ1.out, hB7⟩
                  case measure => simp [intOf]; have := Hm3.out; omega
                | true =>
                  have hql : j < ((L ++ [((⟨id, [], 0⟩ : K.Kp), Value.slice none 0 0)])).length := (List.getElem?_eq_some_iff.1 hz.out).1
                  obtain ⟨M2, hsy, hJ2⟩ := hJ1.sync (j := j) (k := ⟨id, [] ++ [t], 0⟩) (List.getElem?_set_self (by rw [List.length_map]; exact hql))
                  have SY := Lib.hid (fun W (h : DkAt w.heap.size W p M1) => sync_to (z := 0) (M' := M2) h id (by omega) (by rw [hsy]) (by rw [hsy]; rfl))
                  change K.J _ _ (List.set _ _ ⟨id, [] ++ [t], ([] ++ [t]).length⟩) at hJ2
                  rw [← Hn6.out] at hJ2
                  replace HJ1 := Lib.hid hJ2
                  have Hql := Lib.hid hql
                  clear hJ1 hs hJ2 hsy hql
                  go_wp2_with (first | (at_builtin; (refine wpList_append_rowN rfl info_kept (.tmp 106) (.tmp 109) 102 rfl Try.underlying102 rfl (RowN.alloc hrow4 _) ⟨w4.heap.size, 0, none⟩ 1 1 [kpC ⟨id, [], 0⟩ (.slice none 0 0)] rfl rfl (by simp [kpC]) (new_cellsN w4 _ _ rfl _) (one_kpC _) hlm ?_; intro v5 w5 r5 g5 o5; have hLq := kat_push (KAt.at_ hL4 (below_alloc1 w4 _)) g5 rfl r5; have hWq := below_grown_own (hW4.alloc hW4.size (.cells #[.string ⟨id.toArray⟩, .slice none 0 0, .int .i64 0] 106)) (Nat.le_trans hW4.size (by rw [World.size_alloc]; omega)) g5 hown4; have hown5 := own_later hown4 (Nat.le_trans hW4.size (by rw [World.size_alloc]; omega)) o5; have kq := (DkAt.at_ k4 (below_alloc1 w4 (.cells #[.string ⟨id.toArray⟩, .slice none 0 0, .int .i64 0] 106))).grownN (RowN.alloc hrow4 _) ⟨by decide, by decide, by decide⟩ g5; obtain ⟨A5, m5, c5, rfl, hm5, hLq⟩ := kat_open hLq; obtain ⟨g, rfl, hg, -⟩ := kat_get hLq hz.out; obtain ⟨-, b1, -⟩ := kat_cells hLq hz.out; have q5 : (j : Int) < (m5 : Int) := (by have := (List.getElem?_eq_some_iff.1 hz.out).1; omega); clear hm5; have hgw : w.heap.size ≤ g := own_geK hown5; have hap := fun ty => append_nil_str w5.heap.size 0 ty (w5.alloc (.cells #[] 9)); try (have hne1 : ¬ gS = g := by omega); try (have hne2 : ¬ g = gS := by omega))) | (at_builtin; (refine wpList_append_row rfl info_str (.tmp 119) (.tmp 121) 35 rfl Try.underlying35 rfl (Row1.alloc (Row1.build w5 9 [] #[] 0 rfl rfl (by omega)) _) ⟨w5.heap.size + 1, 0, none⟩ 1 1 [strV t] rfl rfl (new_cellsB w5 _ _ _ rfl _) (str_one [t]) hl2 ?_; intro v6 w6 r6 g6 o6; have hb6 : Below w5.heap.size w5 w6 := below_grown_own ((below_alloc1 w5 _).alloc (by rw [World.size_alloc]; omega) _) (by rw [World.size_alloc, World.size_alloc]; omega) g6 (.inr ⟨_, Nat.le_refl _, rfl⟩); replace r6 := row_text0 r6; obtain ⟨g7, c7, rfl, _⟩ := r6.form_len (n := n6) (by rw [List.length_map]; exact Hn6.out.symm) Hn60.out; have hLq6 := hLq.at_ hb6; obtain ⟨-, x1, -⟩ := kat_cells hLq6 hz.out; have x2 := kat_free hLq6 (j * 3 + 1); have hL7 := KAt.more hLq hb6 hz.out r6; have k7 := dk_set (kq.at_ hb6) hLq6 (j * 3 + 1) (.slice (some ⟨g7, 0, none⟩) n6 c7); have hB6 := hWq.trans (hb6.mono hWq.size); have hB7 : Below w.heap.size w (w6.setCell ⟨g, j * 3 + 1, none⟩ (.slice (some ⟨g7, 0, none⟩) n6 c7)) := (Only.setCell w6 g (j * 3 + 1) _).below hB6 hgw; try have cS6 := cS.out _ hB6)) | (go_at_call 39; (with_reducible refine (SY.out _ k7).mono ?_); rintro e w8 ⟨rfl, k8, s8⟩; have hL8 := hL7.dstp s8; have hz8 := List.getElem?_set_self (a := ((⟨id, [] ++ [t], 0⟩ : K.Kp), Value.slice (some ⟨g7, 0, none⟩) n6 c7)) Hql.out; obtain ⟨-, y1, y3⟩ := kat_cells hL8 hz8; have y2 := kat_free hL8 (j * 3 + 2); have hL9 := hL8.sure hz8 (n := n6); have k9 := dk_set k8 hL8 (j * 3 + 2) (.int .i64 (n6 : Int)); have hB9 : Below w.heap.size w (w8.setCell ⟨g, j * 3 + 2, none⟩ (.int .i64 (n6 : Int))) := (Only.setCell w8 g (j * 3 + 2) _).below (hB7.trans s8.below) hgw))
                  go_roundw
                  case rel => exact ⟨k + 1, M2, _, rfl, Hm1.out, Hm3.out, hL9, hown5, k9, by rw [kp_fst, kp_fst]; exact HJ1.out, hB9⟩
                  case measure => simp [intOf]; have := Hm3.out; omega
              · have c1 : decide ((k : Int) < (ss.length : Int)) = false := decide_eq_false (by omega)
                have c1' : decide (k < ss.length) = false := decide_eq_false (by omega)
                clear hJ1 hs
                go_wp2_with (first | (at_builtin; (refine wpList_append_rowN rfl info_kept (.tmp 106) (.tmp 109) 102 rfl Try.underlying102 rfl (RowN.alloc hrow4 _) ⟨w4.heap.size, 0, none⟩ 1 1 [kpC ⟨id, [], 0⟩ (.slice none 0 0)] rfl rfl (by simp [kpC]) (new_cellsN w4 _ _ rfl _) (one_kpC _) hlm ?_; intro v5 w5 r5 g5 o5; have hLq := kat_push (KAt.at_ hL4 (below_alloc1 w4 _)) g5 rfl r5; have hWq := below_grown_own (hW4.alloc hW4.size (.cells #[.string ⟨id.toArray⟩, .slice none 0 0, .int .i64 0] 106)) (Nat.le_trans hW4.size (by rw [World.size_alloc]; omega)) g5 hown4; have hown5 := own_later hown4 (Nat.le_trans hW4.size (by rw [World.size_alloc]; omega)) o5; have kq := (DkAt.at_ k4 (below_alloc1 w4 (.cells #[.string ⟨id.toArray⟩, .slice none 0 0, .int .i64 0] 106))).grownN (RowN.alloc hrow4 _) ⟨by decide, by decide, by decide⟩ g5; obtain ⟨A5, m5, c5, rfl, hm5, hLq⟩ := kat_open hLq; obtain ⟨g, rfl, hg, -⟩ := kat_get hLq hz.out; obtain ⟨-, b1, -⟩ := kat_cells hLq hz.out; have q5 : (j : Int) < (m5 : Int) := (by have := (List.getElem?_eq_some_iff.1 hz.out).1; omega); clear hm5; have hgw : w.heap.size ≤ g := own_geK hown5; have hap := fun ty => append_nil_str w5.heap.size 0 ty (w5.alloc (.cells #[] 9)); try (have hne1 : ¬ gS = g := by omega); try (have hne2 : ¬ g = gS := by omega))) | (at_builtin; (refine wpList_append_row rfl info_str (.tmp 119) (.tmp 121) 35 rfl Try.underlying35 rfl (Row1.alloc (Row1.build w5 9 [] #[] 0 rfl rfl (by omega)) _) ⟨w5.heap.size + 1, 0, none⟩ 1 1 [strV t] rfl rfl (new_cellsB w5 _ _ _ rfl _) (str_one [t]) hl2 ?_; intro v6 w6 r6 g6 o6; have hb6 : Below w5.heap.size w5 w6 := below_grown_own ((below_alloc1 w5 _).alloc (by rw [World.size_alloc]; omega) _) (by rw [World.size_alloc, World.size_alloc]; omega) g6 (.inr ⟨_, Nat.le_refl _, rfl⟩); replace r6 := row_text0 r6; obtain ⟨g7, c7, rfl, _⟩ := r6.form_len (n := n6) (by rw [List.length_map]; exact Hn6.out.symm) Hn60.out; have hLq6 := hLq.at_ hb6; obtain ⟨-, x1, -⟩ := kat_cells hLq6 hz.out; have x2 := kat_free hLq6 (j * 3 + 1); have hL7 := KAt.more hLq hb6 hz.out r6; have k7 := dk_set (kq.at_ hb6) hLq6 (j * 3 + 1) (.slice (some ⟨g7, 0, none⟩) n6 c7); have hB6 := hWq.trans (hb6.mono hWq.size); have hB7 : Below w.heap.size w (w6.setCell ⟨g, j * 3 + 1, none⟩ (.slice (some ⟨g7, 0, none⟩) n6 c7)) := (Only.setCell w6 g (j * 3 + 1) _).below hB6 hgw; try have cS6 := cS.out _ hB6)))
                go_roundw
                case rel => exact ⟨k + 1, M1, _, rfl, Hm1.out, Hm3.out, hL7, hown5, k7, by rw [kp_fst]; exact HJ1.out, hB7⟩
                case measure => simp [intOf]; have := Hm3.out; omega
            · have f0 : K.Into (L.map Prod.fst) id (L.map Prod.fst) q z.1 := .inl ⟨rfl, by rw [List.getElem?_map, hz]; rfl, hzid⟩
              have f0 := Lib.hid f0
              obtain ⟨kz, tv⟩ := z
              obtain ⟨zid, ztx, zsu⟩ := kz
              dsimp only at hzid
              subst hzid
              obtain ⟨g, rfl, hg, _⟩ := kat_get hL4 hz
              obtain ⟨b0, b1, b2⟩ := kat_cells hL4 hz
              have hz0 := hJ.out.some_ _ (List.mem_map_of_mem (List.mem_of_getElem? hz))
              have hzn := (hJ.out.ok _ (List.mem_map_of_mem (List.mem_of_getElem? hz))).2.1
              have hrt := hL4.2 _ (List.mem_of_getElem? hz)
              have hz := Lib.hid hz
              dsimp only at hz0 hzn hrt
              have i0 : (0 : Int) ≤ (q : Int) := by omega
              have i1 : (q : Int) < (j : Int) := by omega
              have e0 : decide ((q : Int) < 0) = false := decide_eq_false (by omega)
              clear hin b0 b2 hqj
              obtain ⟨gs, cs', rfl, hcs'⟩ := hrt.form_len (n := ztx.length) (by rw [List.length_map]) hz0
              have hgw : w.heap.size ≤ g := by
                rcases hown4 with e | ⟨k', h1, h2⟩
                · cases e
                · have h3 : some g = some k' := h2
                  injection h3 with h3; omega
              have hl1 : (([] : List Value).length + ztx.length) * 16 ≤ 140737488355328 := by simp; omega
              have hl2 : ((([] : List Value) ++ ztx.map strV).length + 1) * 16 ≤ 140737488355328 := by rw [List.nil_append, List.length_map]; omega
              have hLq := hL4
              have kq := k4
              have hWq := hW4
              have hJ1 := hadd.out _ _ _ f0.out
              obtain ⟨n6, hn6⟩ : ∃ n, n = (ztx ++ [t]).length := ⟨_, rfl⟩
              have Hn60 := Lib.hid (show 0 < n6 by rw [hn6, List.length_append, List.length_singleton]; omega)
              have Hn6 := Lib.hid hn6
              have HJ1 := Lib.hid hJ1
              have hw1 := hw1.out
              clear hn6
              by_cases hs : k < ss.length
              · have c1 : decide ((k : Int) < (ss.length : Int)) = true := decide_eq_true (by omega)
                have c1' : decide (k < ss.length) = true := decide_eq_true (by omega)
                have j3 : (k : Int) < (ss.length : Int) := by omega
                obtain ⟨gS, oS, rfl, hgS, hclS⟩ : ∃ g o, As = some ⟨g, o, none⟩ ∧ g < w.heap.size ∧ ∀ j u, (ss.map Value.bool)[j]? = some u → w.cell? ⟨g, o + j, none⟩ = some u := by
                  rcases hcells with e | e
                  · exfalso
                    have h9 : ss.length = 0 := by rw [← hlms, e]; rfl
                    omega
                  · exact e
                obtain ⟨b, hb⟩ : ∃ b, ss[k]? = some b := ⟨_, List.getElem?_eq_getElem hs⟩
                have cS := Lib.hid (fun W (hW : Below w.heap.size w W) => ((hW.cell (p := ⟨gS, oS + k, none⟩) hgS).trans (hclS k _ (by rw [List.getElem?_map, hb]; rfl)) : W.cell? ⟨gS, oS + k, none⟩ = some (.bool b)))
                try have hne1 : ¬ gS = g := by omega
                try have hne2 : ¬ g = gS := by omega
                clear hclS hcells hb
                cases b with
                | false =>
                  clear hJ1 hs
                  go_wp2_with (first | (at_builtin; refine wpList_append_row rfl info_str (.tmp 113) (.tmp 118) 35 rfl Try.underlying35 rfl (Row1.build w4 9 [] #[] 0 rfl rfl (by omega)) ⟨gs, 0, none⟩ ztx.length cs' (ztx.map strV) rfl (by rw [List.length_map]) (row1_news (hrt.alloc _)) (str_one _) hl1 ?_; intro v5 w5 r5 g5 o5; have hb5 : Below w4.heap.size w4 w5 := below_grown_own (below_alloc1 w4 _) (by rw [World.size_alloc]; omega) g5 (.inr ⟨_, Nat.le_refl _, rfl⟩); have hown5 := own_later (B := w4.heap.size) (.inr ⟨_, Nat.le_refl _, rfl⟩) (by rw [World.size_alloc]; omega) o5) | (at_builtin; (refine wpList_append_row rfl info_str (.tmp 119) (.tmp 121) 35 rfl Try.underlying35 rfl (Row1.alloc r5 _) ⟨w5.heap.size, 0, none⟩ 1 1 [strV t] rfl rfl (new_cells w5 _ _ rfl _) (str_one [t]) hl2 ?_; intro v6 w6 r6 g6 o6; have hb6 : Below w4.heap.size w4 w6 := below_grown_own (hb5.alloc hb5.size _) (Nat.le_trans hb5.size (by rw [World.size_alloc]; omega)) g6 hown5; replace r6 := row_text r6; obtain ⟨g7, c7, rfl, _⟩ := r6.form_len (n := n6) (by rw [List.length_map]; exact Hn6.out.symm) Hn60.out; have hLq6 := hLq.at_ hb6; obtain ⟨-, x1, -⟩ := kat_cells hLq6 hz.out; have x2 := kat_free hLq6 (q * 3 + 1); have hL7 := KAt.more hLq hb6 hz.out r6; have k7 := dk_set (kq.at_ hb6) hLq6 (q * 3 + 1) (.slice (some ⟨g7, 0, none⟩) n6 c7); have hB6 := hWq.trans (hb6.mono hWq.size); have hB7 : Below w.heap.size w (w6.setCell ⟨g, q * 3 + 1, none⟩ (.slice (some ⟨g7, 0, none⟩) n6 c7)) := (Only.setCell w6 g (q * 3 + 1) _).below hB6 hgw; try have cS6 := cS.out _ hB6)))
                  go_roundw
                  case rel => exact ⟨k + 1, M1, _, rfl, Hm1.out, Hm3.out, hL7, hown4, k7, by rw [kp_fst]; exact HJ1.out, hB7⟩
                  case measure => simp [intOf]; have := Hm3.out; omega
                | true =>
                  have hql : q < (L).length := (List.getElem?_eq_some_iff.1 hz.out).1
                  obtain ⟨M2, hsy, hJ2⟩ := hJ1.sync (j := q) (k := ⟨zid, ztx ++ [t], zsu⟩) (List.getElem?_set_self (by rw [List.length_map]; exact hql))
                  have SY := Lib.hid (fun W (h : DkAt w.heap.size W p M1) => sync_to (z := 0) (M' := M2) h zid (by omega) (by rw [hsy]) (by rw [hsy]; rfl))
                  change K.J _ _ (List.set _ _ ⟨zid, ztx ++ [t], (ztx ++ [t]).length⟩) at hJ2
                  rw [← Hn6.out] at hJ2
                  replace HJ1 := Lib.hid hJ2
                  have Hql := Lib.hid hql
                  clear hJ1 hs hJ2 hsy hql
                  go_wp2_with (first | (at_builtin; refine wpList_append_row rfl info_str (.tmp 113) (.tmp 118) 35 rfl Try.underlying35 rfl (Row1.build w4 9 [] #[] 0 rfl rfl (by omega)) ⟨gs, 0, none⟩ ztx.length cs' (ztx.map strV) rfl (by rw [List.length_map]) (row1_news (hrt.alloc _)) (str_one _) hl1 ?_; intro v5 w5 r5 g5 o5; have hb5 : Below w4.heap.size w4 w5 := below_grown_own (below_alloc1 w4 _) (by rw [World.size_alloc]; omega) g5 (.inr ⟨_, Nat.le_refl _, rfl⟩); have hown5 := own_later (B := w4.heap.size) (.inr ⟨_, Nat.le_refl _, rfl⟩) (by rw [World.size_alloc]; omega) o5) | (at_builtin; (refine wpList_append_row rfl info_str (.tmp 119) (.tmp 121) 35 rfl Try.underlying35 rfl (Row1.alloc r5 _) ⟨w5.heap.size, 0, none⟩ 1 1 [strV t] rfl rfl (new_cells w5 _ _ rfl _) (str_one [t]) hl2 ?_; intro v6 w6 r6 g6 o6; have hb6 : Below w4.heap.size w4 w6 := below_grown_own (hb5.alloc hb5.size _) (Nat.le_trans hb5.size (by rw [World.size_alloc]; omega)) g6 hown5; replace r6 := row_text r6; obtain ⟨g7, c7, rfl, _⟩ := r6.form_len (n := n6) (by rw [List.length_map]; exact Hn6.out.symm) Hn60.out; have hLq6 := hLq.at_ hb6; obtain ⟨-, x1, -⟩ := kat_cells hLq6 hz.out; have x2 := kat_free hLq6 (q * 3 + 1); have hL7 := KAt.more hLq hb6 hz.out r6; have k7 := dk_set (kq.at_ hb6) hLq6 (q * 3 + 1) (.slice (some ⟨g7, 0, none⟩) n6 c7); have hB6 := hWq.trans (hb6.mono hWq.size); have hB7 : Below w.heap.size w (w6.setCell ⟨g, q * 3 + 1, none⟩ (.slice (some ⟨g7, 0, none⟩) n6 c7)) := (Only.setCell w6 g (q * 3 + 1) _).below hB6 hgw; try have cS6 := cS.out _ hB6)) | (go_at_call 39; (with_reducible refine (SY.out _ k7).mono ?_); rintro e w8 ⟨rfl, k8, s8⟩; have hL8 := hL7.dstp s8; have hz8 := List.getElem?_set_self (a := ((⟨zid, ztx ++ [t], zsu⟩ : K.Kp), Value.slice (some ⟨g7, 0, none⟩) n6 c7)) Hql.out; obtain ⟨-, y1, y3⟩ := kat_cells hL8 hz8; have y2 := kat_free hL8 (q * 3 + 2); have hL9 := hL8.sure hz8 (n := n6); have k9 := dk_set k8 hL8 (q * 3 + 2) (.int .i64 (n6 : Int)); have hB9 : Below w.heap.size w (w8.setCell ⟨g, q * 3 + 2, none⟩ (.int .i64 (n6 : Int))) := (Only.setCell w8 g (q * 3 + 2) _).below (hB7.trans s8.below) hgw))
                  go_roundw
                  case rel => exact ⟨k + 1, M2, _, rfl, Hm1.out, Hm3.out, hL9, hown4, k9, by rw [kp_fst, kp_fst]; exact HJ1.out, hB9⟩
                  case measure => simp [intOf]; have := Hm3.out; omega
              · have c1 : decide ((k : Int) < (ss.length : Int)) = false := decide_eq_false (by omega)
                have c1' : decide (k < ss.length) = false := decide_eq_false (by omega)
                clear hJ1 hs
                go_wp2_with (first | (at_builtin; refine wpList_append_row rfl info_str (.tmp 113) (.tmp 118) 35 rfl Try.underlying35 rfl (Row1.build w4 9 [] #[] 0 rfl rfl (by omega)) ⟨gs, 0, none⟩ ztx.length cs' (ztx.map strV) rfl (by rw [List.length_map]) (row1_news (hrt.alloc _)) (str_one _) hl1 ?_; intro v5 w5 r5 g5 o5; have hb5 : Below w4.heap.size w4 w5 := below_grown_own (below_alloc1 w4 _) (by rw [World.size_alloc]; omega) g5 (.inr ⟨_, Nat.le_refl _, rfl⟩); have hown5 := own_later (B := w4.heap.size) (.inr ⟨_, Nat.le_refl _, rfl⟩) (by rw [World.size_alloc]; omega) o5) | (at_builtin; (refine wpList_append_row rfl info_str (.tmp 119) (.tmp 121) 35 rfl Try.underlying35 rfl (Row1.alloc r5 _) ⟨w5.heap.size, 0, none⟩ 1 1 [strV t] rfl rfl (new_cells w5 _ _ rfl _) (str_one [t]) hl2 ?_; intro v6 w6 r6 g6 o6; have hb6 : Below w4.heap.size w4 w6 := below_grown_own (hb5.alloc hb5.size _) (Nat.le_trans hb5.size (by rw [World.size_alloc]; omega)) g6 hown5; replace r6 := row_text r6; obtain ⟨g7, c7, rfl, _⟩ := r6.form_len (n := n6) (by rw [List.length_map]; exact Hn6.out.symm) Hn60.out; have hLq6 := hLq.at_ hb6; obtain ⟨-, x1, -⟩ := kat_cells hLq6 hz.out; have x2 := kat_free hLq6 (q * 3 + 1); have hL7 := KAt.more hLq hb6 hz.out r6; have k7 := dk_set (kq.at_ hb6) hLq6 (q * 3 + 1) (.slice (some ⟨g7, 0, none⟩) n6 c7); have hB6 := hWq.trans (hb6.mono hWq.size); have hB7 : Below w.heap.size w (w6.setCell ⟨g, q * 3 + 1, none⟩ (.slice (some ⟨g7, 0, none⟩) n6 c7)) := (Only.setCell w6 g (q * 3 + 1) _).below hB6 hgw; try have cS6 := cS.out _ hB6)))
                go_roundw
                case rel => exact ⟨k + 1, M1, _, rfl, Hm1.out, Hm3.out, hL7, hown4, k7, by rw [kp_fst]; exact HJ1.out, hB7⟩
                case measure => simp [intOf]; have := Hm3.out; omega
      · have d4 : (((e2 : Nat) : Int) != 0) = true := by rw [bne_iff_ne]; omega
        have Hm1 := Lib.hid (show k + 1 ≤ is.length by omega)
        have Hm3 := Lib.hid (show k + 1 ≤ 20 by omega)
        clear hid hnid
        go_wp2_with (first | (go_at_call 19; (with_reducible refine (CX.out _).mono ?_); rintro e w9 ⟨rfl, rfl⟩) | (go_at_call 66; (with_reducible refine (CC.out _).mono ?_); rintro e w2 ⟨rfl, s2⟩))
        go_roundw
        case rel => exact ⟨k + 1, M, L, rfl, Hm1.out, Hm3.out, hL.at_ s2, hown, k1.at_ s2, hJ.out.skip, s1.trans (s2.mono s1.size)⟩
        case measure => simp [intOf]; have := Hm3.out; omega
    · have hsplit : (decide ((k : Int) < (is.length : Int)) = false ∧ decide (k < is.length) = false) ∨ (decide ((k : Int) < (is.length : Int)) = true ∧ decide (k < is.length) = true ∧ decide ((k : Int) < (ts.length : Int)) = false ∧ decide (k < ts.length) = false) ∨ (decide ((k : Int) < (is.length : Int)) = true ∧ decide (k < is.length) = true ∧ decide ((k : Int) < (ts.length : Int)) = true ∧ decide (k < ts.length) = true ∧ decide ((k : Int) < 20) = false ∧ decide (k < 20) = false) := by
        by_cases h9 : k < is.length
        · by_cases h8 : k < ts.length
          · exact .inr (.inr ⟨decide_eq_true (by omega), decide_eq_true (by omega), decide_eq_true (by omega), decide_eq_true (by omega), decide_eq_false (by omega), decide_eq_false (by omega)⟩)
          · exact .inr (.inl ⟨decide_eq_true (by omega), decide_eq_true (by omega), decide_eq_false (by omega), decide_eq_false (by omega)⟩)
        · exact .inl ⟨decide_eq_false (by omega), decide_eq_false (by omega)⟩
      have hus := hJ.out.used
      have CR := Lib.hid (crash_to (M' := D.crash M lk) k1 lk vk hkl hwk (fun w' d => ints_at hK (Nat.le_refl _) (s1.trans d.below)) (by omega) rfl)
      obtain ⟨hlen, hrd⟩ := hJ.out.crash lk
      have hm20 : m ≤ 20 := by have h1 := hJ.out.few; have h2 := hm.out; rw [List.length_map] at h1; omega
      have hlen : ((D.list (D.crash M lk)).map encStr).length = m := by rw [List.length_map, hlen, List.length_map, hm.out]
      have LI := Lib.hid (fun W (h : DkAt w.heap.size W p (D.crash M lk)) => list_any h)
      have hlen := Lib.hid hlen
      have hrd := Lib.hid (fun (z : Kv) (hz : z ∈ L) => hrd z.1 (List.mem_map_of_mem hz))
      have hok := Lib.hid (fun (z : Kv) (hz : z ∈ L) => hJ.out.ok z.1 (List.mem_map_of_mem hz))
      clear hmore hcelli hcellt hcells hJ hus
      generalize D.crash M lk = MC at *
      have hne0 : ((m : Int) != (m : Int)) = false := by simp
      rcases hsplit with ⟨h1, h2⟩ | ⟨h1, h2, h3, h4⟩ | ⟨h1, h2, h3, h4, h5, h6⟩
      · skip
        go_wp2_with (first | (go_at_call 41; (with_reducible refine (CR.out).mono ?_); rintro e w2 ⟨rfl, k2, s2⟩) | (go_at_call 55; (with_reducible refine (LI.out _ k2).mono ?_); rintro e w3 ⟨vl, rfl, rl, -, s3⟩; obtain ⟨Al, cl, rfl⟩ := row1_openN rl hlen.out))
        have hL3 := (hL.dstp s2).at_ s3
        have k3 := k2.at_ s3
        have hB3 := (s1.trans s2.below).trans (s3.mono (Nat.le_of_lt k2.lt))
        clear s1 s2 s3 k1 k2 hL rl CR LI
        go_loopw [160] (fun i wr => ∃ q : Nat, q ≤ m ∧ i = .int .i64 (q : Int) ∧ KAt wr (.slice A m c) L ∧ DkAt w.heap.size wr p MC ∧ Below w.heap.size w wr) (fun i _ => m - (intOf i).toNat)
        case atStart => exact ⟨0, Nat.zero_le _, rfl, hL3, k3, hB3⟩
        case round =>
          clear hL3 k3 hB3
          obtain ⟨q, hq, rfl, hL, k1, hB⟩ := hrel
          have q0 : (0 : Int) ≤ (q : Int) := by omega
          by_cases hqm : q < m
          · have e1 : decide ((q : Int) < (m : Int)) = true := decide_eq_true (by omega)
            have e1' : decide (q < m) = true := decide_eq_true (by omega)
            have q1 : (q : Int) < (m : Int) := by omega
            have hw2 : IntKind.i64.wrap ((q : Int) + 1) = ((q + 1 : Nat) : Int) := by rw [IntWalk.i64_in _ (by omega)]; omega
            obtain ⟨z, hz⟩ : ∃ z, L[q]? = some z := ⟨_, List.getElem?_eq_getElem (by have := hm.out; omega)⟩
            obtain ⟨b, mm, r1, r2, r3, r4, r5⟩ := hrd.out z (List.mem_of_getElem? hz)
            obtain ⟨o1, o2, o3, o4, o5⟩ := hok.out z (List.mem_of_getElem? hz)
            obtain ⟨⟨zid, ztx, zsu⟩, tv⟩ := z
            dsimp only at r1 r3 r4 r5 o1 o2 o3 o4
            obtain ⟨g, rfl, hg, cR⟩ := kat_get hL hz
            have hrt := hL.2 _ (List.mem_of_getElem? hz)
            dsimp only at hrt
            obtain ⟨As2, cs2, rfl⟩ := row1_openN hrt (n := ztx.length) (by rw [List.length_map])
            have cR' : wr.rangeAt g (q * 3) [.string ⟨zid.toArray⟩, .slice As2 ztx.length cs2, .int .i64 (zsu : Int)] := cR
            have hsz : (Try.prog.info? 106).map (·.size) = some [Value.string ⟨zid.toArray⟩, .slice As2 ztx.length cs2, .int .i64 (zsu : Int)].length := size_kept
            have RD := Lib.hid (fun W (h : DkAt w.heap.size W p MC) => read_to (s := b) (z := 0) h zid (by omega) (by rw [r1]) (by rw [r1]; rfl))
            have AL := Lib.hid (fun W => all_any b (by omega) W)
            generalize hcb : C.all b = ab at *
            obtain ⟨lb, nb⟩ := ab
            dsimp only at r3
            have hlb : (lb.map strV).length = mm := by rw [List.length_map, r3, List.length_take]; omega
            have t1 : decide ((mm : Int) < (zsu : Int)) = false := decide_eq_false (by omega)
            have t1' : decide (mm < zsu) = false := decide_eq_false (by omega)
            have t2 : decide ((ztx.length : Int) < (mm : Int)) = false := decide_eq_false (by omega)
            have t2' : decide (ztx.length < mm) = false := decide_eq_false (by omega)
            have B1 := Blk.new wr #[.string ⟨zid.toArray⟩, .slice As2 ztx.length cs2, .int .i64 (zsu : Int)] 106
            have hb1 := below_alloc1 wr (.cells #[.string ⟨zid.toArray⟩, .slice As2 ztx.length cs2, .int .i64 (zsu : Int)] 106)
            have k2 := k1.at_ hb1
            have hL2 := hL.at_ hb1
            have hrt2 := hrt.at_ hb1
            have hB2 := hB.trans (hb1.mono hB.size)
            have hlb := Lib.hid hlb
            have r3 := Lib.hid r3
            have hmz : mm ≤ ztx.length := r5
            clear cR hz r1 hcb r4 o1 hrt hL k1
            generalize hN : ztx.length = N at *
            have hN := Lib.hid hN
            go_wp2_with (first | (refine wpList_load_mid rfl 106 (.tmp 162) rfl g (q * 3) rfl _ _ cR' Try.underlying106 rfl hsz ?_; go_frame) | (go_at_call 43; (with_reducible refine (RD.out _ k2).mono ?_); rintro e w9 ⟨rfl, rfl⟩) | (go_at_call 27; (with_reducible refine (AL.out _).mono ?_); rintro e w5 ⟨va, rfl, ra, -, s5⟩; obtain ⟨Aa, ca, rfl⟩ := row1_openN ra hlb.out; obtain ⟨y0, y1, y2⟩ := cells3 (B1.at_ s5)))
            have k5 := k2.at_ s5
            have hL5 := hL2.at_ s5
            have hrt5 := hrt2.at_ s5
            have hB5 := hB2.trans (s5.mono hB2.size)
            have hqm1 := Lib.hid (show q + 1 ≤ m by omega)
            clear s5 k2 hL2 hrt2 hB2 hb1 B1 cR' hsz RD AL t1 t1' t2 t2' e1 e1' q1 hB hg
            go_loopw [195] (fun i wq => ∃ r : Nat, r ≤ mm ∧ i = .int .i64 (r : Int) ∧ ∃ n, wq = w5.drewN n) (fun i _ => mm - (intOf i).toNat)
            case atStart => exact ⟨0, Nat.zero_le _, rfl, 0, rfl⟩
            case round =>
              obtain ⟨r, hr, rfl, n, rfl⟩ := hrel
              by_cases hrm : r < mm
              · have e2 : decide ((r : Int) < (mm : Int)) = true := decide_eq_true (by omega)
                have e2' : decide (r < mm) = true := decide_eq_true (by omega)
                have p0 : (0 : Int) ≤ (r : Int) := by omega
                have p1 : (r : Int) < (mm : Int) := by omega
                have p2 : (r : Int) < (N : Int) := by omega
                have hw3 : IntKind.i64.wrap ((r : Int) + 1) = ((r + 1 : Nat) : Int) := by rw [IntWalk.i64_in _ (by omega)]; omega
                obtain ⟨x, hx⟩ : ∃ x, lb[r]? = some x := ⟨_, List.getElem?_eq_getElem (by have := hlb.out; rw [List.length_map] at this; omega)⟩
                have hx2 : ztx[r]? = some x := by
                  rw [r3.out, List.getElem?_take, if_pos hrm] at hx
                  exact hx
                obtain ⟨ga, rfl, x1⟩ := row1_at ra (j := r) (u := strV x) (by rw [List.getElem?_map, hx]; rfl)
                obtain ⟨gs, rfl, x2⟩ := row1_at hrt5 (j := r) (u := strV x) (by rw [List.getElem?_map, hx2]; rfl)
                unfold strV at x1 x2
                clear hx hx2 ra hrt5 hL5 k5 hB5
                go_wp2
                go_quiet (fail)
                go_wp2
                go_roundw
                case rel => exact ⟨r + 1, by omega, by rfl, by first | exact ⟨_, rfl⟩ | exact ⟨_, World.drewN_drewN _ _ _⟩⟩
                case measure => simp [intOf]; omega
              · have e2 : decide ((r : Int) < (mm : Int)) = false := decide_eq_false (by omega)
                have e2' : decide (r < mm) = false := decide_eq_false (by omega)
                have hbn : ∀ B, Below B w5 (w5.drewN n) := fun B => below_drewN (Below.refl B w5) n
                have k6 := k5.at_ (hbn _)
                have hL6 := hL5.at_ (hbn _)
                have hB6 := hB5.trans (hbn _)
                clear k5 hL5 hrt5 hB5 ra hrm
                go_wp2
                go_roundw
                case rel => exact ⟨q + 1, hqm1.out, rfl, hL6, k6, hB6⟩
                case measure => simp [intOf]; have := hqm1.out; omega
          · have e1 : decide ((q : Int) < (m : Int)) = false := decide_eq_false (by omega)
            have e1' : decide (q < m) = false := decide_eq_false (by omega)
            go_wp2
            go_ret
            exact ⟨rfl, hB⟩
      · skip
        go_wp2_with (first | (go_at_call 41; (with_reducible refine (CR.out).mono ?_); rintro e w2 ⟨rfl, k2, s2⟩) | (go_at_call 55; (with_reducible refine (LI.out _ k2).mono ?_); rintro e w3 ⟨vl, rfl, rl, -, s3⟩; obtain ⟨Al, cl, rfl⟩ := row1_openN rl hlen.out))
        have hL3 := (hL.dstp s2).at_ s3
        have k3 := k2.at_ s3
        have hB3 := (s1.trans s2.below).trans (s3.mono (Nat.le_of_lt k2.lt))
        clear s1 s2 s3 k1 k2 hL rl CR LI
        go_loopw [160] (fun i wr => ∃ q : Nat, q ≤ m ∧ i = .int .i64 (q : Int) ∧ KAt wr (.slice A m c) L ∧ DkAt w.heap.size wr p MC ∧ Below w.heap.size w wr) (fun i _ => m - (intOf i).toNat)
        case atStart => exact ⟨0, Nat.zero_le _, rfl, hL3, k3, hB3⟩
        case round =>
          clear hL3 k3 hB3
          obtain ⟨q, hq, rfl, hL, k1, hB⟩ := hrel
          have q0 : (0 : Int) ≤ (q : Int) := by omega
          by_cases hqm : q < m
          · have e1 : decide ((q : Int) < (m : Int)) = true := decide_eq_true (by omega)
            have e1' : decide (q < m) = true := decide_eq_true (by omega)
            have q1 : (q : Int) < (m : Int) := by omega
            have hw2 : IntKind.i64.wrap ((q : Int) + 1) = ((q + 1 : Nat) : Int) := by rw [IntWalk.i64_in _ (by omega)]; omega
            obtain ⟨z, hz⟩ : ∃ z, L[q]? = some z := ⟨_, List.getElem?_eq_getElem (by have := hm.out; omega)⟩
            obtain ⟨b, mm, r1, r2, r3, r4, r5⟩ := hrd.out z (List.mem_of_getElem? hz)
            obtain ⟨o1, o2, o3, o4, o5⟩ := hok.out z (List.mem_of_getElem? hz)
            obtain ⟨⟨zid, ztx, zsu⟩, tv⟩ := z
            dsimp only at r1 r3 r4 r5 o1 o2 o3 o4
            obtain ⟨g, rfl, hg, cR⟩ := kat_get hL hz
            have hrt := hL.2 _ (List.mem_of_getElem? hz)
            dsimp only at hrt
            obtain ⟨As2, cs2, rfl⟩ := row1_openN hrt (n := ztx.length) (by rw [List.length_map])
            have cR' : wr.rangeAt g (q * 3) [.string ⟨zid.toArray⟩, .slice As2 ztx.length cs2, .int .i64 (zsu : Int)] := cR
            have hsz : (Try.prog.info? 106).map (·.size) = some [Value.string ⟨zid.toArray⟩, .slice As2 ztx.length cs2, .int .i64 (zsu : Int)].length := size_kept
            have RD := Lib.hid (fun W (h : DkAt w.heap.size W p MC) => read_to (s := b) (z := 0) h zid (by omega) (by rw [r1]) (by rw [r1]; rfl))
            have AL := Lib.hid (fun W => all_any b (by omega) W)
            generalize hcb : C.all b = ab at *
            obtain ⟨lb, nb⟩ := ab
            dsimp only at r3
            have hlb : (lb.map strV).length = mm := by rw [List.length_map, r3, List.length_take]; omega
            have t1 : decide ((mm : Int) < (zsu : Int)) = false := decide_eq_false (by omega)
            have t1' : decide (mm < zsu) = false := decide_eq_false (by omega)
            have t2 : decide ((ztx.length : Int) < (mm : Int)) = false := decide_eq_false (by omega)
            have t2' : decide (ztx.length < mm) = false := decide_eq_false (by omega)
            have B1 := Blk.new wr #[.string ⟨zid.toArray⟩, .slice As2 ztx.length cs2, .int .i64 (zsu : Int)] 106
            have hb1 := below_alloc1 wr (.cells #[.string ⟨zid.toArray⟩, .slice As2 ztx.length cs2, .int .i64 (zsu : Int)] 106)
            have k2 := k1.at_ hb1
            have hL2 := hL.at_ hb1
            have hrt2 := hrt.at_ hb1
            have hB2 := hB.trans (hb1.mono hB.size)
            have hlb := Lib.hid hlb
            have r3 := Lib.hid r3
            have hmz : mm ≤ ztx.length := r5
            clear cR hz r1 hcb r4 o1 hrt hL k1
            generalize hN : ztx.length = N at *
            have hN := Lib.hid hN
            go_wp2_with (first | (refine wpList_load_mid rfl 106 (.tmp 162) rfl g (q * 3) rfl _ _ cR' Try.underlying106 rfl hsz ?_; go_frame) | (go_at_call 43; (with_reducible refine (RD.out _ k2).mono ?_); rintro e w9 ⟨rfl, rfl⟩) | (go_at_call 27; (with_reducible refine (AL.out _).mono ?_); rintro e w5 ⟨va, rfl, ra, -, s5⟩; obtain ⟨Aa, ca, rfl⟩ := row1_openN ra hlb.out; obtain ⟨y0, y1, y2⟩ := cells3 (B1.at_ s5)))
            have k5 := k2.at_ s5
            have hL5 := hL2.at_ s5
            have hrt5 := hrt2.at_ s5
            have hB5 := hB2.trans (s5.mono hB2.size)
            have hqm1 := Lib.hid (show q + 1 ≤ m by omega)
            clear s5 k2 hL2 hrt2 hB2 hb1 B1 cR' hsz RD AL t1 t1' t2 t2' e1 e1' q1 hB hg
            go_loopw [195] (fun i wq => ∃ r : Nat, r ≤ mm ∧ i = .int .i64 (r : Int) ∧ ∃ n, wq = w5.drewN n) (fun i _ => mm - (intOf i).toNat)
            case atStart => exact ⟨0, Nat.zero_le _, rfl, 0, rfl⟩
            case round =>
              obtain ⟨r, hr, rfl, n, rfl⟩ := hrel
              by_cases hrm : r < mm
              · have e2 : decide ((r : Int) < (mm : Int)) = true := decide_eq_true (by omega)
                have e2' : decide (r < mm) = true := decide_eq_true (by omega)
                have p0 : (0 : Int) ≤ (r : Int) := by omega
                have p1 : (r : Int) < (mm : Int) := by omega
                have p2 : (r : Int) < (N : Int) := by omega
                have hw3 : IntKind.i64.wrap ((r : Int) + 1) = ((r + 1 : Nat) : Int) := by rw [IntWalk.i64_in _ (by omega)]; omega
                obtain ⟨x, hx⟩ : ∃ x, lb[r]? = some x := ⟨_, List.getElem?_eq_getElem (by have := hlb.out; rw [List.length_map] at this; omega)⟩
                have hx2 : ztx[r]? = some x := by
                  rw [r3.out, List.getElem?_take, if_pos hrm] at hx
                  exact hx
                obtain ⟨ga, rfl, x1⟩ := row1_at ra (j := r) (u := strV x) (by rw [List.getElem?_map, hx]; rfl)
                obtain ⟨gs, rfl, x2⟩ := row1_at hrt5 (j := r) (u := strV x) (by rw [List.getElem?_map, hx2]; rfl)
                unfold strV at x1 x2
                clear hx hx2 ra hrt5 hL5 k5 hB5
                go_wp2
                go_quiet (fail)
                go_wp2
                go_roundw
                case rel => exact ⟨r + 1, by omega, by rfl, by first | exact ⟨_, rfl⟩ | exact ⟨_, World.drewN_drewN _ _ _⟩⟩
                case measure => simp [intOf]; omega
              · have e2 : decide ((r : Int) < (mm : Int)) = false := decide_eq_false (by omega)
                have e2' : decide (r < mm) = false := decide_eq_false (by omega)
                have hbn : ∀ B, Below B w5 (w5.drewN n) := fun B => below_drewN (Below.refl B w5) n
                have k6 := k5.at_ (hbn _)
                have hL6 := hL5.at_ (hbn _)
                have hB6 := hB5.trans (hbn _)
                clear k5 hL5 hrt5 hB5 ra hrm
                go_wp2
                go_roundw
                case rel => exact ⟨q + 1, hqm1.out, rfl, hL6, k6, hB6⟩
                case measure => simp [intOf]; have := hqm1.out; omega
          · have e1 : decide ((q : Int) < (m : Int)) = false := decide_eq_false (by omega)
            have e1' : decide (q < m) = false := decide_eq_false (by omega)
            go_wp2
            go_ret
            exact ⟨rfl, hB⟩
      · skip
        go_wp2_with (first | (go_at_call 41; (with_reducible refine (CR.out).mono ?_); rintro e w2 ⟨rfl, k2, s2⟩) | (go_at_call 55; (with_reducible refine (LI.out _ k2).mono ?_); rintro e w3 ⟨vl, rfl, rl, -, s3⟩; obtain ⟨Al, cl, rfl⟩ := row1_openN rl hlen.out))
        have hL3 := (hL.dstp s2).at_ s3
        have k3 := k2.at_ s3
        have hB3 := (s1.trans s2.below).trans (s3.mono (Nat.le_of_lt k2.lt))
        clear s1 s2 s3 k1 k2 hL rl CR LI
        go_loopw [160] (fun i wr => ∃ q : Nat, q ≤ m ∧ i = .int .i64 (q : Int) ∧ KAt wr (.slice A m c) L ∧ DkAt w.heap.size wr p MC ∧ Below w.heap.size w wr) (fun i _ => m - (intOf i).toNat)
        case atStart => exact ⟨0, Nat.zero_le _, rfl, hL3, k3, hB3⟩
        case round =>
          clear hL3 k3 hB3
          obtain ⟨q, hq, rfl, hL, k1, hB⟩ := hrel
          have q0 : (0 : Int) ≤ (q : Int) := by omega
          by_cases hqm : q < m
          · have e1 : decide ((q : Int) < (m : Int)) = true := decide_eq_true (by omega)
            have e1' : decide (q < m) = true := decide_eq_true (by omega)
            have q1 : (q : Int) < (m : Int) := by omega
            have hw2 : IntKind.i64.wrap ((q : Int) + 1) = ((q + 1 : Nat) : Int) := by rw [IntWalk.i64_in _ (by omega)]; omega
            obtain ⟨z, hz⟩ : ∃ z, L[q]? = some z := ⟨_, List.getElem?_eq_getElem (by have := hm.out; omega)⟩
            obtain ⟨b, mm, r1, r2, r3, r4, r5⟩ := hrd.out z (List.mem_of_getElem? hz)
            obtain ⟨o1, o2, o3, o4, o5⟩ := hok.out z (List.mem_of_getElem? hz)
            obtain ⟨⟨zid, ztx, zsu⟩, tv⟩ := z
            dsimp only at r1 r3 r4 r5 o1 o2 o3 o4
            obtain ⟨g, rfl, hg, cR⟩ := kat_get hL hz
            have hrt := hL.2 _ (List.mem_of_getElem? hz)
            dsimp only at hrt
            obtain ⟨As2, cs2, rfl⟩ := row1_openN hrt (n := ztx.length) (by rw [List.length_map])
            have cR' : wr.rangeAt g (q * 3) [.string ⟨zid.toArray⟩, .slice As2 ztx.length cs2, .int .i64 (zsu : Int)] := cR
            have hsz : (Try.prog.info? 106).map (·.size) = some [Value.string ⟨zid.toArray⟩, .slice As2 ztx.length cs2, .int .i64 (zsu : Int)].length := size_kept
            have RD := Lib.hid (fun W (h : DkAt w.heap.size W p MC) => read_to (s := b) (z := 0) h zid (by omega) (by rw [r1]) (by rw [r1]; rfl))
            have AL := Lib.hid (fun W => all_any b (by omega) W)
            generalize hcb : C.all b = ab at *
            obtain ⟨lb, nb⟩ := ab
            dsimp only at r3
            have hlb : (lb.map strV).length = mm := by rw [List.length_map, r3, List.length_take]; omega
            have t1 : decide ((mm : Int) < (zsu : Int)) = false := decide_eq_false (by omega)
            have t1' : decide (mm < zsu) = false := decide_eq_false (by omega)
            have t2 : decide ((ztx.length : Int) < (mm : Int)) = false := decide_eq_false (by omega)
            have t2' : decide (ztx.length < mm) = false := decide_eq_false (by omega)
            have B1 := Blk.new wr #[.string ⟨zid.toArray⟩, .slice As2 ztx.length cs2, .int .i64 (zsu : Int)] 106
            have hb1 := below_alloc1 wr (.cells #[.string ⟨zid.toArray⟩, .slice As2 ztx.length cs2, .int .i64 (zsu : Int)] 106)
            have k2 := k1.at_ hb1
            have hL2 := hL.at_ hb1
            have hrt2 := hrt.at_ hb1
            have hB2 := hB.trans (hb1.mono hB.size)
            have hlb := Lib.hid hlb
            have r3 := Lib.hid r3
            have hmz : mm ≤ ztx.length := r5
            clear cR hz r1 hcb r4 o1 hrt hL k1
            generalize hN : ztx.length = N at *
            have hN := Lib.hid hN
            go_wp2_with (first | (refine wpList_load_mid rfl 106 (.tmp 162) rfl g (q * 3) rfl _ _ cR' Try.underlying106 rfl hsz ?_; go_frame) | (go_at_call 43; (with_reducible refine (RD.out _ k2).mono ?_); rintro e w9 ⟨rfl, rfl⟩) | (go_at_call 27; (with_reducible refine (AL.out _).mono ?_); rintro e w5 ⟨va, rfl, ra, -, s5⟩; obtain ⟨Aa, ca, rfl⟩ := row1_openN ra hlb.out; obtain ⟨y0, y1, y2⟩ := cells3 (B1.at_ s5)))
            have k5 := k2.at_ s5
            have hL5 := hL2.at_ s5
            have hrt5 := hrt2.at_ s5
            have hB5 := hB2.trans (s5.mono hB2.size)
            have hqm1 := Lib.hid (show q + 1 ≤ m by omega)
            clear s5 k2 hL2 hrt2 hB2 hb1 B1 cR' hsz RD AL t1 t1' t2 t2' e1 e1' q1 hB hg
            go_loopw [195] (fun i wq => ∃ r : Nat, r ≤ mm ∧ i = .int .i64 (r : Int) ∧ ∃ n, wq = w5.drewN n) (fun i _ => mm - (intOf i).toNat)
            case atStart => exact ⟨0, Nat.zero_le _, rfl, 0, rfl⟩
            case round =>
              obtain ⟨r, hr, rfl, n, rfl⟩ := hrel
              by_cases hrm : r < mm
              · have e2 : decide ((r : Int) < (mm : Int)) = true := decide_eq_true (by omega)
                have e2' : decide (r < mm) = true := decide_eq_true (by omega)
                have p0 : (0 : Int) ≤ (r : Int) := by omega
                have p1 : (r : Int) < (mm : Int) := by omega
                have p2 : (r : Int) < (N : Int) := by omega
                have hw3 : IntKind.i64.wrap ((r : Int) + 1) = ((r + 1 : Nat) : Int) := by rw [IntWalk.i64_in _ (by omega)]; omega
                obtain ⟨x, hx⟩ : ∃ x, lb[r]? = some x := ⟨_, List.getElem?_eq_getElem (by have := hlb.out; rw [List.length_map] at this; omega)⟩
                have hx2 : ztx[r]? = some x := by
                  rw [r3.out, List.getElem?_take, if_pos hrm] at hx
                  exact hx
                obtain ⟨ga, rfl, x1⟩ := row1_at ra (j := r) (u := strV x) (by rw [List.getElem?_map, hx]; rfl)
                obtain ⟨gs, rfl, x2⟩ := row1_at hrt5 (j := r) (u := strV x) (by rw [List.getElem?_map, hx2]; rfl)
                unfold strV at x1 x2
                clear hx hx2 ra hrt5 hL5 k5 hB5
                go_wp2
                go_quiet (fail)
                go_wp2
                go_roundw
                case rel => exact ⟨r + 1, by omega, by rfl, by first | exact ⟨_, rfl⟩ | exact ⟨_, World.drewN_drewN _ _ _⟩⟩
                case measure => simp [intOf]; omega
              · have e2 : decide ((r : Int) < (mm : Int)) = false := decide_eq_false (by omega)
                have e2' : decide (r < mm) = false := decide_eq_false (by omega)
                have hbn : ∀ B, Below B w5 (w5.drewN n) := fun B => below_drewN (Below.refl B w5) n
                have k6 := k5.at_ (hbn _)
                have hL6 := hL5.at_ (hbn _)
                have hB6 := hB5.trans (hbn _)
                clear k5 hL5 hrt5 hB5 ra hrm
                go_wp2
                go_roundw
                case rel => exact ⟨q + 1, hqm1.out, rfl, hL6, k6, hB6⟩
                case measure => simp [intOf]; have := hqm1.out; omega
          · have e1 : decide ((q : Int) < (m : Int)) = false := decide_eq_false (by omega)
            have e1' : decide (q < m) = false := decide_eq_false (by omega)
            go_wp2
            go_ret
            exact ⟨rfl, hB⟩
end Go.Proofs.Ytknkbioalohofaa
