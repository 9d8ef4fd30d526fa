/- The walk of JournalSpoilt. -/
import Derived.Test.YtknkbioalohofaaJrG
import Derived.Test.YtknkbioalohofaaPureSeg3
namespace Go.Proofs.Ytknkbioalohofaa
open Go.RowKit

theorem rsame_quiet {a b : List (List UInt8)} (hab : a = b) {v1 v2 : Value} {w : World} (h1 : SRead w v1 (a.map strV)) (h2 : SRead w v2 (b.map strV)) (ha : a.length ≤ 4611686018427387904) :
    Calls Try.prog 29 #[v1, v2] w fun e w' => e = .returned (.bool true) ∧ Below w.heap.size w w' :=
  (rsame_yes hab h1 h2 ha).mono (by rintro e w' ⟨rfl, n, rfl⟩; exact ⟨rfl, below_drewN (Below.refl _ _) n⟩)
theorem spoil_u8 {B : Nat} {w : World} {p : Nat} {M M' : D.Dk} {e' : Nat} (h : DkAt B w p M) (n : List UInt8) (t : Int) (y : UInt8) (hn : n.length ≤ 9223372036854775807) (ht : -9223372036854775808 ≤ t ∧ t < 9223372036854775808) (hu : D.used M.files ≤ 1099511627776) (hM : D.spoil M n t y = (M', e')) {z x : Int} (hx : (y.toNat : Int) = x) (hz : (e' : Int) = z) :
    Calls Try.prog 49 #[.pointer (some ⟨p, 0, none⟩), .string ⟨n.toArray⟩, .int .i64 t, .int .u8 x] w fun e w' => e = .returned (.int .i64 z) ∧ DkAt B w' p M' ∧ DStp B w w' := by
  have := spoil_any h n t y hn ht hu
  rw [hM] at this
  rw [← hz, ← hx]; exact this
namespace Jr
theorem fl_succ {F : List (List UInt8)} {q : Nat} {s : List UInt8} (h : F[q]? = some s) : C.fl F (q + 1) = C.fl F q + (s.length + 8) := by
  unfold C.fl
  rw [List.take_add_one, h, C.frames_append, List.length_append]
  simp [C.frames, C.wrap_length]
theorem fl_le (F : List (List UInt8)) (h : ∀ t ∈ F, t.length ≤ 100) : ∀ q, C.fl F q ≤ 108 * q
  | 0 => by rw [C.fl_zero]; omega
  | q + 1 => by
    have := fl_le F h q
    cases e : F[q]? with
    | none =>
      unfold C.fl at this ⊢
      rw [List.take_add_one, e]
      simp
      omega
    | some s =>
      have h2 := h s (List.mem_of_getElem? e)
      rw [fl_succ e]; omega
theorem frames_le (F : List (List UInt8)) (h : ∀ t ∈ F, t.length ≤ 100) : (C.frames F).length ≤ 108 * F.length := by
  rw [← C.fl_all]; exact fl_le F h _
end Jr
set_option maxRecDepth 100000 in
set_option maxHeartbeats 16000000 in
theorem jspoilt_walk (ta tb : List (List UInt8)) (at_ : Int) (y : UInt8) (va vb : Value) (w : World) (hTa : SRead w va (ta.map strV)) (hal : ta.length ≤ 9223372036854775807) (hTb : SRead w vb (tb.map strV)) (hbl : tb.length ≤ 9223372036854775807) (hat : -9223372036854775808 ≤ at_ ∧ at_ < 9223372036854775808) {x : Int} (hx : (y.toNat : Int) = x) :
    Calls Try.prog 16 #[va, vb, .int .i64 at_, .int .u8 x] w fun e w' => e = .returned (.bool true) ∧ Below w.heap.size w w' := by
  obtain ⟨Aa, ca, rfl, hTa⟩ := sread_open hTa
  obtain ⟨Ab, cb, rfl, hTb⟩ := sread_open hTb
  have AW := Lib.hid (fun W => jawake_any W)
  have Hx := Lib.hid hx
  have NW := Lib.hid (new_to (M' := Jr.mk 1048576 []) 1048576 (by omega) w rfl)
  have O1 := Lib.hid (fun W p (h : DkAt w.heap.size W p (Jr.mk 1048576 [])) => jopen_to (n := 0) (T := []) h rfl rfl Jr.Up.nil (by decide) rfl rfl (L := 0) rfl)
  clear hx
  go_enter Try.func16, Try.ntmps16
  go_wp2_with (first | (go_at_call 37; (with_reducible refine NW.out.mono ?_); rintro e w1 ⟨p, rfl, k1, s1⟩) | (go_at_call 56; (with_reducible refine (O1.out _ _ k1).mono ?_); rintro e w2 ⟨jb, A2, c2, rfl, q2, j2, r2, k2, b2⟩))
  have r0 : Row1 (w2.alloc (.cells #[] 9)) 9 (.slice (some ⟨w2.heap.size, 0, none⟩) 0 0) [] := Row1.build w2 _ [] #[] 0 rfl rfl (by omega)
  have r1 : Row1 ((w2.alloc (.cells #[] 9)).alloc (.cells #[] 9)) 9 (.slice (some ⟨w2.heap.size + 1, 0, none⟩) 0 0) [] := by
    have := Row1.build (w2.alloc (.cells #[] 9)) 9 [] #[] 0 rfl rfl (by omega)
    rw [World.size_alloc] at this
    exact this
  have B2 := s1.trans (b2.mono s1.size)
  have hws : w.heap.size ≤ w2.heap.size := B2.size
  have B3 := (B2.alloc B2.size (.cells #[] 9)).alloc (by have := B2.size; rw [World.size_alloc]; omega) (.cells #[] 9)
  have hjb : w.heap.size ≤ jb := Nat.le_trans s1.size q2
  obtain ⟨b14, hb14⟩ : ∃ b, b = w2.heap.size + 1 := ⟨_, rfl⟩
  rw [← hb14] at r1
  try rw [← hb14]
  have b22 := ((Below.refl w2.heap.size w2).alloc (Nat.le_refl _) (.cells #[] 9)).alloc (by rw [World.size_alloc]; omega) (.cells #[] 9)
  have Hb := Lib.hid hb14
  have own14 : w.heap.size ≤ b14 := by rw [hb14]; omega
  clear NW O1 k1 r2 hb14
  go_loopw [13, 15] (fun u i wr => ∃ (k : Nat) (F : List (List UInt8)), k ≤ ta.length ∧ k ≤ 10 ∧ i = .int .i64 (k : Int) ∧ F.length ≤ k ∧ (∀ t ∈ F, t.length ≤ 100) ∧ JrAt wr jb p 0 ∧ DkAt w.heap.size wr p (Jr.mk 1048576 (Jr.seg 0 F)) ∧ Row1 wr 9 u (F.map strV) ∧ (u.ownBlock = none ∨ ∃ k, w.heap.size ≤ k ∧ u.ownBlock = some k) ∧ Row1 wr 9 (.slice (some ⟨b14, 0, none⟩) 0 0) [] ∧ (∀ g, u.ownBlock = some g → g ≠ b14) ∧ Below w.heap.size w wr) (fun _ i _ => 10 - (intOf i).toNat)
  case atStart => exact ⟨0, [], by omega, by omega, rfl, Nat.le_refl _, by simp, j2.at_ b22, k2.at_ b22, r0.alloc _, .inr ⟨_, hws, rfl⟩, r1, (by intro g hg; simp only [Value.ownBlock, Option.some.injEq] at hg; have := Hb.out; omega), B3⟩
  case round =>
    clear r0 r1 B2 B3 hws j2 k2 s1 b2 q2 b22
    obtain ⟨k, F, hk1, hk2, rfl, hFk, hF, hj, hdk, hrow, hown, hr14, hne, hB⟩ := hrel
    have q0 : (0 : Int) ≤ (k : Int) := by omega
    have hFl := Jr.frames_le F hF
    by_cases hmore : k < ta.length ∧ k < 10
    · obtain ⟨hm1, hm2⟩ := hmore
      have d2 : decide ((k : Int) < (ta.length : Int)) = true := decide_eq_true (by omega)
      have d3 : decide ((k : Int) < 10) = true := decide_eq_true (by omega)
      have q1 : (k : Int) < (ta.length : Int) := by omega
      obtain ⟨s0, hs0⟩ : ∃ t, ta[k]? = some t := ⟨_, List.getElem?_eq_getElem hm1⟩
      obtain ⟨g, o, rfl, hg, hcl⟩ := sread_at hTa hs0
      have cT : wr.cell? ⟨g, o + k, none⟩ = some (.string ⟨s0.toArray⟩) := (hB.cell (p := ⟨g, o + k, none⟩) hg).trans hcl
      have CU := Lib.hid (fun W => lcut_to s0 100 (z := 100) rfl W)
      have hsz : (s0.take 100).length ≤ 100 := by rw [List.length_take]; omega
      generalize s0.take 100 = s at *
      have hw1 : IntKind.i64.wrap ((k : Int) + 1) = ((k + 1 : Nat) : Int) := by rw [IntWalk.i64_in _ (by omega)]; omega
      have hadd := Jr.add_seg (room := 1048576) (l := []) (n := 0) (G := F) (s := s) Jr.Up.nil (by omega) (by simp) (by show _ + (0 + _) ≤ _; omega) (by simp)
      rw [List.nil_append, List.nil_append] at hadd
      have hus : D.used (Jr.files (Jr.seg 0 F)) = (C.frames F).length := by have := Jr.used_seg [] 0 F; rw [List.nil_append] at this; rw [this]; show 0 + _ = _; omega
      have AD := Lib.hid (jadd_to (z := 0) hdk hj (by omega) s (by omega) (by show D.used (Jr.files (Jr.seg 0 F)) + _ ≤ _; omega) hadd rfl)
      have hlen : (F.map strV).length + 1 ≤ 1000000 := by rw [List.length_map]; omega
      have Htx : Hid (F.map strV ++ [strV s] = (F ++ [s]).map strV) := Lib.hid (by rw [List.map_append]; rfl)
      have Hl := Lib.hid (show (F ++ [s]).length ≤ k + 1 by rw [List.length_append, List.length_singleton]; omega)
      have Hs : Hid (∀ t ∈ F ++ [s], t.length ≤ 100) := Lib.hid (by
        intro t ht
        rcases List.mem_append.1 ht with h | h
        · exact hF t h
        · rw [List.mem_singleton.1 h]; exact hsz)
      clear hadd hus hFl
      go_wp2_with (first | (go_at_call 19; (with_reducible refine (CU.out _).mono ?_); rintro e w3 ⟨rfl, rfl⟩) | (go_at_call 57; (with_reducible refine AD.out.mono ?_); rintro e w4 ⟨rfl, k4, s4⟩; have j4 := hj.dstp s4; have hrow4 := hrow.dstp s4 (by decide) (by decide); have B4 := hB.trans s4.below) | (at_builtin; refine wpList_append_row rfl info_str (.tmp 58) (.tmp 60) 35 rfl Try.underlying35 rfl (hrow4.alloc _) ⟨w4.heap.size, 0, none⟩ 1 1 [strV s] rfl rfl (new_cells _ _ _ rfl _) (str_one [s]) (by omega) ?_; intro v5 w5 hrow5 hg5 hr5))
      rw [Htx.out] at hrow5
      have b45 := (Below.refl w4.heap.size w4).alloc (Nat.le_refl _) (.cells #[strV s] 9)
      have B45 := B4.trans (b45.mono B4.size)
      have B5 := below_grown_own B45 B45.size hg5 hown
      have hown5 := own_later hown B45.size hr5
      have j5 : JrAt w5 jb p 0 := Blk.grownRow (j4.at_ b45) (hrow4.alloc _) (by decide) hg5
      have k5 := (k4.at_ b45).grown (hrow4.alloc _) (by decide) hg5
      have r14 := (hr14.dstp s4 (by decide) (by decide)).at_ b45
      have r145 := r14.grown hg5 (fun g h1 h2 => hne g h2 (by injection h1 with h1; exact h1.symm))
      have l14 := r14.lt (g := b14) rfl
      have hne5 : ∀ g, v5.ownBlock = some g → g ≠ b14 := by
        intro g hg0
        rcases hr5 with e | ⟨k9, hk9, e⟩
        · rw [e] at hg0; exact hne g hg0
        · rw [e] at hg0; injection hg0 with hg0
          have hk9' : (w4.alloc (.cells #[strV s] 9)).heap.size ≤ k9 := hk9
          omega
      go_roundw
      case rel => exact ⟨k + 1, F ++ [s], by omega, by omega, rfl, Hl.out, Hs.out, j5, k5, hrow5, hown5, r145, hne5, B5⟩
      case measure => simp [intOf]; omega
    · have hsplit : (decide ((k : Int) < (ta.length : Int)) = false ∧ decide (k < ta.length) = false) ∨ (decide ((k : Int) < (ta.length : Int)) = true ∧ decide (k < ta.length) = true ∧ decide ((k : Int) < 10) = false ∧ decide (k < 10) = false) := by
        by_cases h9 : k < ta.length
        · exact .inr ⟨decide_eq_true (by omega), decide_eq_true (by omega), decide_eq_false (by omega), decide_eq_false (by omega)⟩
        · exact .inl ⟨decide_eq_false (by omega), decide_eq_false (by omega)⟩
      have hF10 : F.length ≤ 10 := by omega
      obtain ⟨A13, c13, rfl, hrow⟩ := row_open hrow
      have TU := Lib.hid (jturn_to (z := 1) hj (by decide) rfl rfl)
      clear hmore hown hTa hal hFk hk1 hk2 Hb
      have hjp : w.heap.size ≤ jb := hjb
      rcases hsplit with ⟨h1, h2⟩ | ⟨h1, h2, h3, h4⟩
      · skip
        go_wp2_with (go_at_call 60; (with_reducible refine TU.out.mono ?_); rintro e w3 ⟨rfl, j3, o3⟩)
        have k3 := hdk.turned hj o3
        have row3 := hrow.onlyBlk hj (by decide) o3
        have r143 := hr14.onlyBlk hj (by decide) o3
        have B3 := o3.below hB hjp
        clear hj hdk hrow hr14 o3 hB TU
        go_loopw [14, 17] (fun u i wr => ∃ (k : Nat) (G : List (List UInt8)), k ≤ tb.length ∧ k ≤ 10 ∧ i = .int .i64 (k : Int) ∧ G.length ≤ k ∧ (∀ t ∈ G, t.length ≤ 100) ∧ JrAt wr jb p 1 ∧ DkAt w.heap.size wr p (Jr.mk 1048576 (Jr.seg 0 F ++ Jr.seg 1 G)) ∧ Row1 wr 9 u (G.map strV) ∧ (u.ownBlock = none ∨ ∃ k, w.heap.size ≤ k ∧ u.ownBlock = some k) ∧ Row1 wr 9 (.slice A13 F.length c13) (F.map strV) ∧ (∀ g, u.ownBlock = some g → (Value.slice A13 F.length c13).ownBlock ≠ some g) ∧ Below w.heap.size w wr) (fun _ i _ => 10 - (intOf i).toNat)
        case atStart => exact ⟨0, [], by omega, by omega, rfl, Nat.le_refl _, by simp, j3, (by rw [Jr.seg_nil, List.append_nil]; exact k3), r143, .inr ⟨b14, own14, rfl⟩, row3, (by intro g hg h9; simp only [Value.ownBlock, Option.some.injEq] at hg; exact hne g h9 hg.symm), B3⟩
        case round =>
          clear r143 row3 j3 k3 B3 hne
          obtain ⟨k, G, hk1, hk2, rfl, hGk, hG, hj, hdk, hrow, hown, hrF, hne, hB⟩ := hrel
          have q0 : (0 : Int) ≤ (k : Int) := by omega
          have hGl := Jr.frames_le G hG
          by_cases hmore : k < tb.length ∧ k < 10
          · obtain ⟨hm1, hm2⟩ := hmore
            have d2 : decide ((k : Int) < (tb.length : Int)) = true := decide_eq_true (by omega)
            have d3 : decide ((k : Int) < 10) = true := decide_eq_true (by omega)
            have q1 : (k : Int) < (tb.length : Int) := by omega
            obtain ⟨s0, hs0⟩ : ∃ t, tb[k]? = some t := ⟨_, List.getElem?_eq_getElem hm1⟩
            obtain ⟨g, o, rfl, hg, hcl⟩ := sread_at hTb hs0
            have cT : wr.cell? ⟨g, o + k, none⟩ = some (.string ⟨s0.toArray⟩) := (hB.cell (p := ⟨g, o + k, none⟩) hg).trans hcl
            have CU := Lib.hid (fun W => lcut_to s0 100 (z := 100) rfl W)
            have hsz : (s0.take 100).length ≤ 100 := by rw [List.length_take]; omega
            generalize s0.take 100 = s at *
            have hw1 : IntKind.i64.wrap ((k : Int) + 1) = ((k + 1 : Nat) : Int) := by rw [IntWalk.i64_in _ (by omega)]; omega
            have hus0 : D.used (Jr.files (Jr.seg 0 F)) = (C.frames F).length := by have := Jr.used_seg [] 0 F; rw [List.nil_append] at this; rw [this]; show 0 + _ = _; omega
            have hus := Jr.used_seg (Jr.seg 0 F) 1 G
            have hadd := Jr.add_seg (room := 1048576) (l := Jr.seg 0 F) (n := 1) (G := G) (s := s) (by have := Jr.Up.nil.seg (n := 0) (G := F) (by omega) (by simp); rwa [List.nil_append] at this) (by omega) (by intro z hz; rw [Jr.seg_k z hz]; omega) (by omega) (by have := Jr.seg_len 0 F; omega)
            have AD := Lib.hid (jadd_to (z := 0) hdk hj (by omega) s (by omega) (by show D.used (Jr.files (Jr.seg 0 F ++ Jr.seg 1 G)) + _ ≤ _; omega) hadd rfl)
            have hlen : (G.map strV).length + 1 ≤ 1000000 := by rw [List.length_map]; omega
            have Htx : Hid (G.map strV ++ [strV s] = (G ++ [s]).map strV) := Lib.hid (by rw [List.map_append]; rfl)
            have Hl := Lib.hid (show (G ++ [s]).length ≤ k + 1 by rw [List.length_append, List.length_singleton]; omega)
            have Hs : Hid (∀ t ∈ G ++ [s], t.length ≤ 100) := Lib.hid (by
              intro t ht
              rcases List.mem_append.1 ht with h | h
              · exact hG t h
              · rw [List.mem_singleton.1 h]; exact hsz)
            clear hadd hus hus0 hGl hFl
            go_wp2_with (first | (go_at_call 19; (with_reducible refine (CU.out _).mono ?_); rintro e w3 ⟨rfl, rfl⟩) | (go_at_call 57; (with_reducible refine AD.out.mono ?_); rintro e w4 ⟨rfl, k4, s4⟩; have j4 := hj.dstp s4; have hrow4 := hrow.dstp s4 (by decide) (by decide); have B4 := hB.trans s4.below) | (at_builtin; refine wpList_append_row rfl info_str (.tmp 83) (.tmp 85) 35 rfl Try.underlying35 rfl (hrow4.alloc _) ⟨w4.heap.size, 0, none⟩ 1 1 [strV s] rfl rfl (new_cells _ _ _ rfl _) (str_one [s]) (by omega) ?_; intro v5 w5 hrow5 hg5 hr5))
            rw [Htx.out] at hrow5
            have b45 := (Below.refl w4.heap.size w4).alloc (Nat.le_refl _) (.cells #[strV s] 9)
            have B45 := B4.trans (b45.mono B4.size)
            have B5 := below_grown_own B45 B45.size hg5 hown
            have hown5 := own_later hown B45.size hr5
            have j5 : JrAt w5 jb p 1 := Blk.grownRow (j4.at_ b45) (hrow4.alloc _) (by decide) hg5
            have k5 := (k4.at_ b45).grown (hrow4.alloc _) (by decide) hg5
            have rF4 := (hrF.dstp s4 (by decide) (by decide)).at_ b45
            have rF5 := rF4.grown hg5 (fun g h1 h2 => hne g h2 h1)
            have lF : ∀ g, (Value.slice A13 F.length c13).ownBlock = some g → g < (w4.alloc (.cells #[strV s] 9)).heap.size := fun g h => rF4.lt h
            have hne5 : ∀ g, v5.ownBlock = some g → (Value.slice A13 F.length c13).ownBlock ≠ some g := by
              intro g hg0 h9
              rcases hr5 with e | ⟨k9, hk9, e⟩
              · rw [e] at hg0; exact hne g hg0 h9
              · rw [e] at hg0; injection hg0 with hg0
                have hk9' : (w4.alloc (.cells #[strV s] 9)).heap.size ≤ k9 := hk9
                have := lF g h9
                omega
            go_roundw
            case rel => exact ⟨k + 1, G ++ [s], by omega, by omega, rfl, Hl.out, Hs.out, j5, k5, hrow5, hown5, rF5, hne5, B5⟩
            case measure => simp [intOf]; omega
          · have hsplit : (decide ((k : Int) < (tb.length : Int)) = false ∧ decide (k < tb.length) = false) ∨ (decide ((k : Int) < (tb.length : Int)) = true ∧ decide (k < tb.length) = true ∧ decide ((k : Int) < 10) = false ∧ decide (k < 10) = false) := by
              by_cases h9 : k < tb.length
              · exact .inr ⟨decide_eq_true (by omega), decide_eq_true (by omega), decide_eq_false (by omega), decide_eq_false (by omega)⟩
              · exact .inl ⟨decide_eq_false (by omega), decide_eq_false (by omega)⟩
            have hG10 : G.length ≤ 10 := by omega
            obtain ⟨A14, c14, rfl, hrow⟩ := row_open hrow
            clear hmore hown hTb hbl hGk hk1 hk2 hne hj
            rcases hsplit with ⟨h1, h2⟩ | ⟨h1, h2, h3, h4⟩
            · skip
              have hupF : Jr.Up (Jr.seg 0 F) := by have := Jr.Up.nil.seg (n := 0) (G := F) (by omega) (by simp); rwa [List.nil_append] at this
              have hup : Jr.Up (Jr.seg 0 F ++ Jr.seg 1 G) := hupF.seg (by omega) (by intro z hz; rw [Jr.seg_k z hz]; omega)
              have hus0 : D.used (Jr.files (Jr.seg 0 F)) = (C.frames F).length := by have := Jr.used_seg [] 0 F; rw [List.nil_append] at this; rw [this]; show 0 + _ = _; omega
              have hus : D.used (Jr.files (Jr.seg 0 F ++ Jr.seg 1 G)) ≤ 10000 := by rw [Jr.used_seg, hus0]; omega
              have N0 := Lib.hid (fun W => jname_to (z := 0) 0 (by decide) rfl rfl W)
              have l14 : (Jr.name 0).length ≤ 9223372036854775807 := by rw [Jr.name_length]; decide
              by_cases hbad : F = [] ∨ at_ < 0 ∨ ((C.frames F).length : Int) ≤ at_
              · obtain ⟨e', he', hsp⟩ : ∃ e', e' ≠ 0 ∧ D.spoil (Jr.mk 1048576 (Jr.seg 0 F ++ Jr.seg 1 G)) (Jr.name 0) at_ y = (Jr.mk 1048576 (Jr.seg 0 F ++ Jr.seg 1 G), e') := by
                  by_cases hFn : F = []
                  · refine ⟨7, by omega, ?_⟩
                    have hn : D.fnd D.Fl.name (Jr.name 0) (Jr.files (Jr.seg 0 F ++ Jr.seg 1 G)) = none := Jr.find_none hup (by omega) (by
                      rw [hFn, Jr.seg_nil, List.nil_append]
                      intro z hz
                      rw [Jr.seg_k z hz]; omega)
                    unfold D.spoil
                    rw [show (Jr.mk 1048576 (Jr.seg 0 F ++ Jr.seg 1 G)).files = Jr.files (Jr.seg 0 F ++ Jr.seg 1 G) from rfl, hn]
                  · refine ⟨1, by omega, ?_⟩
                    rw [Jr.seg_cons 0 hFn, List.singleton_append] at hup ⊢
                    have := Jr.spoil_seg (room := 1048576) (at_ := at_) (y := y) hup
                    rw [if_pos (hbad.resolve_left hFn)] at this
                    exact this
                have SP := Lib.hid (fun W (h : DkAt w.heap.size W p (Jr.mk 1048576 (Jr.seg 0 F ++ Jr.seg 1 G))) => spoil_u8 (z := (e' : Int)) h (Jr.name 0) at_ y l14 hat (by show D.used (Jr.files _) ≤ _; omega) hsp Hx.out rfl)
                have de : ((e' : Int) != 0) = true := by rw [bne_iff_ne]; omega
                clear hsp hbad hup hupF hus hus0
                generalize Jr.name 0 = nm at *
                go_wp2_with (first | (go_at_call 61; (with_reducible refine (N0.out _).mono ?_); rintro e w3 ⟨rfl, b3⟩) | (go_at_call 49; (with_reducible refine (SP.out _ (hdk.at_ b3)).mono ?_); rintro e w4 ⟨rfl, k4, s4⟩) | (go_at_call 59; (with_reducible refine (AW.out _).mono ?_); rintro e w5 ⟨rfl, b5⟩))
                go_ret
                have B4 := (hB.trans (b3.mono hB.size)).trans s4.below
                exact ⟨rfl, B4.trans (b5.mono B4.size)⟩
              have hFn : F ≠ [] := fun e => hbad (.inl e)
              have hat0 : ¬ (at_ < 0 ∨ ((C.frames F).length : Int) ≤ at_) := fun e => hbad (.inr e)
              rw [Jr.seg_cons 0 hFn, List.singleton_append] at hup hdk hus
              have hsp := Jr.spoil_seg (room := 1048576) (at_ := at_) (y := y) hup
              rw [if_neg hat0] at hsp
              obtain ⟨a, rfl⟩ : ∃ a : Nat, at_ = (a : Int) := ⟨at_.toNat, by omega⟩
              rw [Int.toNat_natCast] at hsp
              have hF6 : ∀ t ∈ F, t.length ≤ 65536 := fun t ht => Nat.le_trans (hF t ht) (by decide)
              have hG6 : ∀ t ∈ G, t.length ≤ 65536 := fun t ht => Nat.le_trans (hG t ht) (by decide)
              have hset := fun k (hk : C.fl F k ≤ a) => Jr.all_set hF6 hk ((C.frames F).getD a 0 ^^^ y)
              have hbl9 : ((C.frames F).set a ((C.frames F).getD a 0 ^^^ y)).length = (C.frames F).length := List.length_set
              dsimp only at hsp hup hdk hus
              generalize (C.frames F).set a ((C.frames F).getD a 0 ^^^ y) = b' at *
              have hup' : Jr.Up (⟨0, b', (C.frames F).length⟩ :: Jr.seg 1 G) := ⟨List.pairwise_cons.2 ⟨fun z hz => (List.pairwise_cons.1 hup.1).1 z hz, (List.pairwise_cons.1 hup.1).2⟩, by
                intro z hz
                rcases List.mem_cons.1 hz with e | e
                · rw [e]; show 0 < _; omega
                · exact hup.2 z (List.mem_cons_of_mem _ e)⟩
              have hus' : D.used (Jr.files (⟨0, b', (C.frames F).length⟩ :: Jr.seg 1 G)) ≤ 10000 := by
                have e1 := D.used_cons (Jr.fl ⟨0, C.frames F, (C.frames F).length⟩) (Jr.files (Jr.seg 1 G))
                have e2 := D.used_cons (Jr.fl ⟨0, b', (C.frames F).length⟩) (Jr.files (Jr.seg 1 G))
                have e3 : (Jr.fl ⟨0, b', (C.frames F).length⟩).b.length = (Jr.fl ⟨0, C.frames F, (C.frames F).length⟩).b.length := hbl9
                show D.used (Jr.fl ⟨0, b', (C.frames F).length⟩ :: Jr.files (Jr.seg 1 G)) ≤ _
                rw [e2, e3, ← e1]
                exact hus
              have ht' : Jr.texts (⟨0, b', (C.frames F).length⟩ :: Jr.seg 1 G) = (C.all b').1 ++ G := by rw [Jr.texts_cons, Jr.texts_seg hG6]
              have hKb := C.all_few b'
              have SP := Lib.hid (fun W (h : DkAt w.heap.size W p (Jr.mk 1048576 (⟨0, C.frames F, (C.frames F).length⟩ :: Jr.seg 1 G))) => spoil_u8 (z := 0) h (Jr.name 0) (a : Int) y l14 hat (by show D.used (Jr.files _) ≤ _; omega) hsp Hx.out rfl)
              by_cases hy0 : x = 0
              · subst hy0
                clear hsp hbad hup hupF hus hus0 hset hup' hus' ht'
                generalize Jr.name 0 = nm at *
                go_wp2_with (first | (go_at_call 61; (with_reducible refine (N0.out _).mono ?_); rintro e w3 ⟨rfl, b3⟩) | (go_at_call 49; (with_reducible refine (SP.out _ (hdk.at_ b3)).mono ?_); rintro e w4 ⟨rfl, k4, s4⟩) | (go_at_call 59; (with_reducible refine (AW.out _).mono ?_); rintro e w5 ⟨rfl, b5⟩))
                go_ret
                have B4 := (hB.trans (b3.mono hB.size)).trans s4.below
                exact ⟨rfl, B4.trans (b5.mono B4.size)⟩
              have dx : (x == 0) = false := beq_eq_false_iff_ne.2 hy0
              obtain ⟨K, hK⟩ : ∃ K, K = (C.all b').1.length := ⟨_, rfl⟩
              have hTl : ((C.all b').1 ++ G).length = K + G.length := by rw [List.length_append, hK]
              have hTd : ((C.all b').1 ++ G).drop K = G := by rw [hK, List.drop_left]
              have hTt : ∀ k R, (C.all b').1 = F.take k ++ R → k ≤ F.length → ((C.all b').1 ++ G).take k = F.take k ∧ k ≤ K := by
                intro k R e hk
                have h9 : (F.take k).length = k := by rw [List.length_take]; omega
                rw [hK, e, List.append_assoc, List.length_append, h9]
                refine ⟨?_, by omega⟩
                have := List.take_left (l₁ := F.take k) (l₂ := R ++ G)
                rwa [h9] at this
              have hTq : ∀ k, C.fl F k ≤ a → k ≤ F.length → ((C.all b').1 ++ G).take k = F.take k ∧ k ≤ K := fun k h1 h2 => by
                obtain ⟨R, hR⟩ := hset k h1
                exact hTt k R hR h2
              rw [← hK] at hKb
              have hK2 : K ≤ 2000 := by omega
              obtain ⟨L, hL⟩ : ∃ L, L = K + G.length := ⟨_, rfl⟩
              rw [← hL] at hTl
              have O2 := Lib.hid (fun W (h : DkAt w.heap.size W p (Jr.mk 1048576 (⟨0, b', (C.frames F).length⟩ :: Jr.seg 1 G))) => jopen_to (n := Jr.next (⟨0, b', (C.frames F).length⟩ :: Jr.seg 1 G)) (T := (C.all b').1 ++ G) h rfl rfl hup' (by show D.used (Jr.files _) ≤ _; omega) rfl ht' (L := L) hTl)
              have Hq := Lib.hid hTq
              have Hd := Lib.hid hTd
              have Ha : Hid ((a : Int) < 9223372036854775808) := Lib.hid hat.2
              have hfl : ∀ q, C.fl F q ≤ 108 * q := Jr.fl_le F hF
              have Hfl := Lib.hid hfl
              clear hsp hbad hup hupF hus hus0 hset hup' hus' ht' hTt hTq hTd hat0 hat hFn hy0 hF6 hG6 hFl hGl hbl9 hKb hK hfl
              generalize (C.all b').1 ++ G = T at *
              generalize Jr.name 0 = nm at *
              have e1 : decide ((L : Int) < (G.length : Int)) = false := decide_eq_false (by omega)
              have e2 : decide (L < G.length) = false := decide_eq_false (by omega)
              have hw1 : IntKind.i64.wrap ((L : Int) - (G.length : Int)) = (K : Int) := by rw [IntWalk.i64_in _ (by omega)]; omega
              have HL : Hid (K ≤ L ∧ L - K = G.length ∧ L = T.length) := Lib.hid ⟨by omega, by omega, hTl.symm⟩
              clear hL hTl
              go_wp2_with (first | (go_at_call 61; (with_reducible refine (N0.out _).mono ?_); rintro e w3 ⟨rfl, b3⟩) | (go_at_call 49; (with_reducible refine (SP.out _ (hdk.at_ b3)).mono ?_); rintro e w4 ⟨rfl, k4, s4⟩; have rF4 := (hrF.at_ b3).dstp s4 (by decide) (by decide); have rG4 := (hrow.at_ b3).dstp s4 (by decide) (by decide); have B4 := (hB.trans (b3.mono hB.size)).trans s4.below) | (go_at_call 56; (with_reducible refine (O2.out _ k4).mono ?_); rintro e w6 ⟨jj, A6, c6, rfl, q6, j6, r6, k6, b6⟩; have rF6 := rF4.at_ b6; have rG6 := rG4.at_ b6; have B6 := B4.trans (b6.mono B4.size); have hc6 := row_cap r6 HL.out.2.2.symm; obtain ⟨A7, c7, hs7, hq7⟩ := sl_from A6 (k := K) (L := L) (c := c6) (n := G.length) rfl HL.out.1 HL.out.2.1 hc6; have r7 := hq7 _ _ r6.reads; rw [Hd.out] at r7) | (go_at_call 29; (with_reducible refine (rsame_yes rfl r7 rG6.reads (by omega)).mono ?_); rintro e w8 ⟨rfl, nq, rfl⟩))
              have rF8 := rF6.at_ (below_drewN (Below.refl _ _) nq)
              have rT8 := r6.at_ (below_drewN (Below.refl _ _) nq)
              have B8 := below_drewN B6 nq
              clear hs7 hq7 r7 b6 b3 k4 s4 rF4 rG4 rG6 rF6 r6 B4 B6 O2 SP N0 hrF hrow hdk hB e1 e2 k6 j6
              generalize w6.drewN nq = w9 at *
              go_loopw [22, 23] (fun n i wr => ∃ q : Nat, q ≤ F.length ∧ i = .int .i64 (q : Int) ∧ n = .int .i64 (C.fl F q : Int) ∧ C.fl F q ≤ a ∧ wr = w9) (fun _ i _ => F.length - (intOf i).toNat)
              case atStart => exact ⟨0, Nat.zero_le _, rfl, by rw [C.fl_zero]; rfl, by rw [C.fl_zero]; exact Nat.zero_le _, rfl⟩
              case round =>
                obtain ⟨q, hqF, rfl, rfl, hqa, hwr⟩ := hrel
                subst hwr
                have hq108 := Hfl.out q
                have Ha2 := Ha.out
                have q0 : (0 : Int) ≤ (q : Int) := by omega
                have hcase : (decide ((q : Int) < (F.length : Int)) = false ∧ decide (q < F.length) = false) ∨ ∃ s g o, F[q]? = some s ∧ A13 = some ⟨g, o, none⟩ ∧ wr.cell? ⟨g, o + q, none⟩ = some (.string ⟨s.toArray⟩) ∧ s.length ≤ 100 ∧ q < F.length := by
                  by_cases h9 : q < F.length
                  · obtain ⟨s, hs⟩ : ∃ t, F[q]? = some t := ⟨_, List.getElem?_eq_getElem h9⟩
                    obtain ⟨g, o, e, _, hc⟩ := sread_at rF8.reads hs
                    exact .inr ⟨s, g, o, hs, e, hc, hF s (List.mem_of_getElem? hs), h9⟩
                  · exact .inl ⟨decide_eq_false (by omega), decide_eq_false h9⟩
                have hqq := Hq.out q hqa hqF
                have HqT := Lib.hid hqq.1
                have hqK := hqq.2
                clear hqq
                rcases hcase with ⟨f1, f2⟩ | ⟨s, g, o, hs, rfl, cS, hsz, h9⟩
                · skip
                  have hc6 := row_cap rT8 HL.out.2.2.symm
                  have hc13 := row_cap rF8 rfl
                  obtain ⟨hsA, hqA⟩ := sl_upto A6 (k := q) (L := L) (c := c6) rfl (by have := HL.out.1; omega) hc6
                  obtain ⟨hsB, hqB⟩ := sl_upto A13 (k := q) (L := F.length) (c := c13) rfl hqF hc13
                  have g1 : decide ((q : Int) ≤ (K : Int)) = true := decide_eq_true (by omega)
                  have g2 : decide (q ≤ K) = true := decide_eq_true (by omega)
                  have RS := Lib.hid (fun W (hW : Below wr.heap.size wr W) => rsame_quiet HqT.out (hqA W T (rT8.at_ hW).reads) (hqB W F (rF8.at_ hW).reads) (by rw [List.length_take]; omega))
                  go_wp2
                  refine wp_region_quiet_below (by kernel_rfl) (by kernel_rfl) ?_
                  repeat (first  | go_big_quiet_step (first | with_reducible exact calls_regrown _ (fun W _ => AW.out W) | with_reducible exact calls_regrown _ (fun W hW => RS.out W hW) | fail))
                  refine wpQuiet_nil ?_
                  intro w1 hw1
                  have hBq := below_of_regrown hw1
                  go_wp2
                  go_ret
                  exact ⟨rfl, B8.trans (hBq.mono B8.size)⟩
                · have f1 : decide ((q : Int) < (F.length : Int)) = true := decide_eq_true (by omega)
                  have q1 : (q : Int) < (F.length : Int) := by omega
                  have hz : (⟨s.toArray⟩ : ByteArray).size = s.length := str_size s
                  have hfs := Jr.fl_succ hs
                  have Hfs := Lib.hid hfs
                  have v1 : IntKind.i64.wrap ((C.fl F q : Int) + 8) = ((C.fl F q + 8 : Nat) : Int) := by rw [IntWalk.i64_in _ (by omega)]; omega
                  have v2 : IntKind.i64.wrap (((C.fl F q + 8 : Nat) : Int) + (s.length : Int)) = ((C.fl F q + 8 + s.length : Nat) : Int) := by rw [IntWalk.i64_in _ (by omega)]; omega
                  have v2' : IntKind.i64.wrap ((C.fl F q : Int) + 8 + (s.length : Int)) = ((C.fl F q + 8 + s.length : Nat) : Int) := by rw [IntWalk.i64_in _ (by omega)]; omega
                  have v3 : IntKind.i64.wrap (8 + (s.length : Int)) = ((8 + s.length : Nat) : Int) := by rw [IntWalk.i64_in _ (by omega)]; omega
                  have v4 : IntKind.i64.wrap ((C.fl F q : Int) + ((8 + s.length : Nat) : Int)) = ((C.fl F q + (8 + s.length) : Nat) : Int) := by rw [IntWalk.i64_in _ (by omega)]; omega
                  have v4' : IntKind.i64.wrap ((C.fl F q : Int) + (8 + (s.length : Int))) = ((C.fl F q + (8 + s.length) : Nat) : Int) := by rw [IntWalk.i64_in _ (by omega)]; omega
                  by_cases hgo : C.fl F q + 8 + s.length ≤ a
                  · have u1 : decide (((C.fl F q + 8 + s.length : Nat) : Int) ≤ (a : Int)) = true := decide_eq_true (by omega)
                    have u2 : decide (C.fl F q + 8 + s.length ≤ a) = true := decide_eq_true (by omega)
                    have u3 : decide ((C.fl F q : Int) + 8 + (s.length : Int) ≤ (a : Int)) = true := decide_eq_true (by omega)
                    have w1 : IntKind.i64.wrap ((q : Int) + 1) = ((q + 1 : Nat) : Int) := by rw [IntWalk.i64_in _ (by omega)]; omega
                    clear hfs hs
                    generalize C.fl F q = P at *
                    go_wp2
                    go_roundw
                    case rel => exact ⟨q + 1, by omega, rfl, by rw [Hfs.out]; congr 1; omega, by rw [Hfs.out]; omega, (by first | rfl | trivial)⟩
                    case measure => simp [intOf]; omega
                  · have u1 : decide (((C.fl F q + 8 + s.length : Nat) : Int) ≤ (a : Int)) = false := decide_eq_false (by omega)
                    have u2 : decide (C.fl F q + 8 + s.length ≤ a) = false := decide_eq_false (by omega)
                    have u3 : decide ((C.fl F q : Int) + 8 + (s.length : Int) ≤ (a : Int)) = false := decide_eq_false (by omega)
                    clear hfs hs
                    generalize C.fl F q = P at *
                    have hc6 := row_cap rT8 HL.out.2.2.symm
                    have hc13 := row_cap rF8 rfl
                    obtain ⟨hsA, hqA⟩ := sl_upto A6 (k := q) (L := L) (c := c6) rfl (by have := HL.out.1; omega) hc6
                    obtain ⟨hsB, hqB⟩ := sl_upto (some ⟨g, o, none⟩) (k := q) (L := F.length) (c := c13) rfl hqF hc13
                    have g1 : decide ((q : Int) ≤ (K : Int)) = true := decide_eq_true (by omega)
                    have g2 : decide (q ≤ K) = true := decide_eq_true (by omega)
                    have RS := Lib.hid (fun W (hW : Below wr.heap.size wr W) => rsame_quiet HqT.out (hqA W T (rT8.at_ hW).reads) (hqB W F (rF8.at_ hW).reads) (by rw [List.length_take]; omega))
                    go_wp2
                    refine wp_region_quiet_below (by kernel_rfl) (by kernel_rfl) ?_
                    repeat (first  | go_big_quiet_step (first | with_reducible exact calls_regrown _ (fun W _ => AW.out W) | with_reducible exact calls_regrown _ (fun W hW => RS.out W hW) | fail))
                    refine wpQuiet_nil ?_
                    intro w1 hw1
                    have hBq := below_of_regrown hw1
                    go_wp2
                    go_ret
                    exact ⟨rfl, B8.trans (hBq.mono B8.size)⟩
            · skip
              have hupF : Jr.Up (Jr.seg 0 F) := by have := Jr.Up.nil.seg (n := 0) (G := F) (by omega) (by simp); rwa [List.nil_append] at this
              have hup : Jr.Up (Jr.seg 0 F ++ Jr.seg 1 G) := hupF.seg (by omega) (by intro z hz; rw [Jr.seg_k z hz]; omega)
              have hus0 : D.used (Jr.files (Jr.seg 0 F)) = (C.frames F).length := by have := Jr.used_seg [] 0 F; rw [List.nil_append] at this; rw [this]; show 0 + _ = _; omega
              have hus : D.used (Jr.files (Jr.seg 0 F ++ Jr.seg 1 G)) ≤ 10000 := by rw [Jr.used_seg, hus0]; omega
              have N0 := Lib.hid (fun W => jname_to (z := 0) 0 (by decide) rfl rfl W)
              have l14 : (Jr.name 0).length ≤ 9223372036854775807 := by rw [Jr.name_length]; decide
              by_cases hbad : F = [] ∨ at_ < 0 ∨ ((C.frames F).length : Int) ≤ at_
              · obtain ⟨e', he', hsp⟩ : ∃ e', e' ≠ 0 ∧ D.spoil (Jr.mk 1048576 (Jr.seg 0 F ++ Jr.seg 1 G)) (Jr.name 0) at_ y = (Jr.mk 1048576 (Jr.seg 0 F ++ Jr.seg 1 G), e') := by
                  by_cases hFn : F = []
                  · refine ⟨7, by omega, ?_⟩
                    have hn : D.fnd D.Fl.name (Jr.name 0) (Jr.files (Jr.seg 0 F ++ Jr.seg 1 G)) = none := Jr.find_none hup (by omega) (by
                      rw [hFn, Jr.seg_nil, List.nil_append]
                      intro z hz
                      rw [Jr.seg_k z hz]; omega)
                    unfold D.spoil
                    rw [show (Jr.mk 1048576 (Jr.seg 0 F ++ Jr.seg 1 G)).files = Jr.files (Jr.seg 0 F ++ Jr.seg 1 G) from rfl, hn]
                  · refine ⟨1, by omega, ?_⟩
                    rw [Jr.seg_cons 0 hFn, List.singleton_append] at hup ⊢
                    have := Jr.spoil_seg (room := 1048576) (at_ := at_) (y := y) hup
                    rw [if_pos (hbad.resolve_left hFn)] at this
                    exact this
                have SP := Lib.hid (fun W (h : DkAt w.heap.size W p (Jr.mk 1048576 (Jr.seg 0 F ++ Jr.seg 1 G))) => spoil_u8 (z := (e' : Int)) h (Jr.name 0) at_ y l14 hat (by show D.used (Jr.files _) ≤ _; omega) hsp Hx.out rfl)
                have de : ((e' : Int) != 0) = true := by rw [bne_iff_ne]; omega
                clear hsp hbad hup hupF hus hus0
                generalize Jr.name 0 = nm at *
                go_wp2_with (first | (go_at_call 61; (with_reducible refine (N0.out _).mono ?_); rintro e w3 ⟨rfl, b3⟩) | (go_at_call 49; (with_reducible refine (SP.out _ (hdk.at_ b3)).mono ?_); rintro e w4 ⟨rfl, k4, s4⟩) | (go_at_call 59; (with_reducible refine (AW.out _).mono ?_); rintro e w5 ⟨rfl, b5⟩))
                go_ret
                have B4 := (hB.trans (b3.mono hB.size)).trans s4.below
                exact ⟨rfl, B4.trans (b5.mono B4.size)⟩
              have hFn : F ≠ [] := fun e => hbad (.inl e)
              have hat0 : ¬ (at_ < 0 ∨ ((C.frames F).length : Int) ≤ at_) := fun e => hbad (.inr e)
              rw [Jr.seg_cons 0 hFn, List.singleton_append] at hup hdk hus
              have hsp := Jr.spoil_seg (room := 1048576) (at_ := at_) (y := y) hup
              rw [if_neg hat0] at hsp
              obtain ⟨a, rfl⟩ : ∃ a : Nat, at_ = (a : Int) := ⟨at_.toNat, by omega⟩
              rw [Int.toNat_natCast] at hsp
              have hF6 : ∀ t ∈ F, t.length ≤ 65536 := fun t ht => Nat.le_trans (hF t ht) (by decide)
              have hG6 : ∀ t ∈ G, t.length ≤ 65536 := fun t ht => Nat.le_trans (hG t ht) (by decide)
              have hset := fun k (hk : C.fl F k ≤ a) => Jr.all_set hF6 hk ((C.frames F).getD a 0 ^^^ y)
              have hbl9 : ((C.frames F).set a ((C.frames F).getD a 0 ^^^ y)).length = (C.frames F).length := List.length_set
              dsimp only at hsp hup hdk hus
              generalize (C.frames F).set a ((C.frames F).getD a 0 ^^^ y) = b' at *
              have hup' : Jr.Up (⟨0, b', (C.frames F).length⟩ :: Jr.seg 1 G) := ⟨List.pairwise_cons.2 ⟨fun z hz => (List.pairwise_cons.1 hup.1).1 z hz, (List.pairwise_cons.1 hup.1).2⟩, by
                intro z hz
                rcases List.mem_cons.1 hz with e | e
                · rw [e]; show 0 < _; omega
                · exact hup.2 z (List.mem_cons_of_mem _ e)⟩
              have hus' : D.used (Jr.files (⟨0, b', (C.frames F).length⟩ :: Jr.seg 1 G)) ≤ 10000 := by
                have e1 := D.used_cons (Jr.fl ⟨0, C.frames F, (C.frames F).length⟩) (Jr.files (Jr.seg 1 G))
                have e2 := D.used_cons (Jr.fl ⟨0, b', (C.frames F).length⟩) (Jr.files (Jr.seg 1 G))
                have e3 : (Jr.fl ⟨0, b', (C.frames F).length⟩).b.length = (Jr.fl ⟨0, C.frames F, (C.frames F).length⟩).b.length := hbl9
                show D.used (Jr.fl ⟨0, b', (C.frames F).length⟩ :: Jr.files (Jr.seg 1 G)) ≤ _
                rw [e2, e3, ← e1]
                exact hus
              have ht' : Jr.texts (⟨0, b', (C.frames F).length⟩ :: Jr.seg 1 G) = (C.all b').1 ++ G := by rw [Jr.texts_cons, Jr.texts_seg hG6]
              have hKb := C.all_few b'
              have SP := Lib.hid (fun W (h : DkAt w.heap.size W p (Jr.mk 1048576 (⟨0, C.frames F, (C.frames F).length⟩ :: Jr.seg 1 G))) => spoil_u8 (z := 0) h (Jr.name 0) (a : Int) y l14 hat (by show D.used (Jr.files _) ≤ _; omega) hsp Hx.out rfl)
              by_cases hy0 : x = 0
              · subst hy0
                clear hsp hbad hup hupF hus hus0 hset hup' hus' ht'
                generalize Jr.name 0 = nm at *
                go_wp2_with (first | (go_at_call 61; (with_reducible refine (N0.out _).mono ?_); rintro e w3 ⟨rfl, b3⟩) | (go_at_call 49; (with_reducible refine (SP.out _ (hdk.at_ b3)).mono ?_); rintro e w4 ⟨rfl, k4, s4⟩) | (go_at_call 59; (with_reducible refine (AW.out _).mono ?_); rintro e w5 ⟨rfl, b5⟩))
                go_ret
                have B4 := (hB.trans (b3.mono hB.size)).trans s4.below
                exact ⟨rfl, B4.trans (b5.mono B4.size)⟩
              have dx : (x == 0) = false := beq_eq_false_iff_ne.2 hy0
              obtain ⟨K, hK⟩ : ∃ K, K = (C.all b').1.length := ⟨_, rfl⟩
              have hTl : ((C.all b').1 ++ G).length = K + G.length := by rw [List.length_append, hK]
              have hTd : ((C.all b').1 ++ G).drop K = G := by rw [hK, List.drop_left]
              have hTt : ∀ k R, (C.all b').1 = F.take k ++ R → k ≤ F.length → ((C.all b').1 ++ G).take k = F.take k ∧ k ≤ K := by
                intro k R e hk
                have h9 : (F.take k).length = k := by rw [List.length_take]; omega
                rw [hK, e, List.append_assoc, List.length_append, h9]
                refine ⟨?_, by omega⟩
                have := List.take_left (l₁ := F.take k) (l₂ := R ++ G)
                rwa [h9] at this
              have hTq : ∀ k, C.fl F k ≤ a → k ≤ F.length → ((C.all b').1 ++ G).take k = F.take k ∧ k ≤ K := fun k h1 h2 => by
                obtain ⟨R, hR⟩ := hset k h1
                exact hTt k R hR h2
              rw [← hK] at hKb
              have hK2 : K ≤ 2000 := by omega
              obtain ⟨L, hL⟩ : ∃ L, L = K + G.length := ⟨_, rfl⟩
              rw [← hL] at hTl
              have O2 := Lib.hid (fun W (h : DkAt w.heap.size W p (Jr.mk 1048576 (⟨0, b', (C.frames F).length⟩ :: Jr.seg 1 G))) => jopen_to (n := Jr.next (⟨0, b', (C.frames F).length⟩ :: Jr.seg 1 G)) (T := (C.all b').1 ++ G) h rfl rfl hup' (by show D.used (Jr.files _) ≤ _; omega) rfl ht' (L := L) hTl)
              have Hq := Lib.hid hTq
              have Hd := Lib.hid hTd
              have Ha : Hid ((a : Int) < 9223372036854775808) := Lib.hid hat.2
              have hfl : ∀ q, C.fl F q ≤ 108 * q := Jr.fl_le F hF
              have Hfl := Lib.hid hfl
              clear hsp hbad hup hupF hus hus0 hset hup' hus' ht' hTt hTq hTd hat0 hat hFn hy0 hF6 hG6 hFl hGl hbl9 hKb hK hfl
              generalize (C.all b').1 ++ G = T at *
              generalize Jr.name 0 = nm at *
              have e1 : decide ((L : Int) < (G.length : Int)) = false := decide_eq_false (by omega)
              have e2 : decide (L < G.length) = false := decide_eq_false (by omega)
              have hw1 : IntKind.i64.wrap ((L : Int) - (G.length : Int)) = (K : Int) := by rw [IntWalk.i64_in _ (by omega)]; omega
              have HL : Hid (K ≤ L ∧ L - K = G.length ∧ L = T.length) := Lib.hid ⟨by omega, by omega, hTl.symm⟩
              clear hL hTl
              go_wp2_with (first | (go_at_call 61; (with_reducible refine (N0.out _).mono ?_); rintro e w3 ⟨rfl, b3⟩) | (go_at_call 49; (with_reducible refine (SP.out _ (hdk.at_ b3)).mono ?_); rintro e w4 ⟨rfl, k4, s4⟩; have rF4 := (hrF.at_ b3).dstp s4 (by decide) (by decide); have rG4 := (hrow.at_ b3).dstp s4 (by decide) (by decide); have B4 := (hB.trans (b3.mono hB.size)).trans s4.below) | (go_at_call 56; (with_reducible refine (O2.out _ k4).mono ?_); rintro e w6 ⟨jj, A6, c6, rfl, q6, j6, r6, k6, b6⟩; have rF6 := rF4.at_ b6; have rG6 := rG4.at_ b6; have B6 := B4.trans (b6.mono B4.size); have hc6 := row_cap r6 HL.out.2.2.symm; obtain ⟨A7, c7, hs7, hq7⟩ := sl_from A6 (k := K) (L := L) (c := c6) (n := G.length) rfl HL.out.1 HL.out.2.1 hc6; have r7 := hq7 _ _ r6.reads; rw [Hd.out] at r7) | (go_at_call 29; (with_reducible refine (rsame_yes rfl r7 rG6.reads (by omega)).mono ?_); rintro e w8 ⟨rfl, nq, rfl⟩))
              have rF8 := rF6.at_ (below_drewN (Below.refl _ _) nq)
              have rT8 := r6.at_ (below_drewN (Below.refl _ _) nq)
              have B8 := below_drewN B6 nq
              clear hs7 hq7 r7 b6 b3 k4 s4 rF4 rG4 rG6 rF6 r6 B4 B6 O2 SP N0 hrF hrow hdk hB e1 e2 k6 j6
              generalize w6.drewN nq = w9 at *
              go_loopw [22, 23] (fun n i wr => ∃ q : Nat, q ≤ F.length ∧ i = .int .i64 (q : Int) ∧ n = .int .i64 (C.fl F q : Int) ∧ C.fl F q ≤ a ∧ wr = w9) (fun _ i _ => F.length - (intOf i).toNat)
              case atStart => exact ⟨0, Nat.zero_le _, rfl, by rw [C.fl_zero]; rfl, by rw [C.fl_zero]; exact Nat.zero_le _, rfl⟩
              case round =>
                obtain ⟨q, hqF, rfl, rfl, hqa, hwr⟩ := hrel
                subst hwr
                have hq108 := Hfl.out q
                have Ha2 := Ha.out
                have q0 : (0 : Int) ≤ (q : Int) := by omega
                have hcase : (decide ((q : Int) < (F.length : Int)) = false ∧ decide (q < F.length) = false) ∨ ∃ s g o, F[q]? = some s ∧ A13 = some ⟨g, o, none⟩ ∧ wr.cell? ⟨g, o + q, none⟩ = some (.string ⟨s.toArray⟩) ∧ s.length ≤ 100 ∧ q < F.length := by
                  by_cases h9 : q < F.length
                  · obtain ⟨s, hs⟩ : ∃ t, F[q]? = some t := ⟨_, List.getElem?_eq_getElem h9⟩
                    obtain ⟨g, o, e, _, hc⟩ := sread_at rF8.reads hs
                    exact .inr ⟨s, g, o, hs, e, hc, hF s (List.mem_of_getElem? hs), h9⟩
                  · exact .inl ⟨decide_eq_false (by omega), decide_eq_false h9⟩
                have hqq := Hq.out q hqa hqF
                have HqT := Lib.hid hqq.1
                have hqK := hqq.2
                clear hqq
                rcases hcase with ⟨f1, f2⟩ | ⟨s, g, o, hs, rfl, cS, hsz, h9⟩
                · skip
                  have hc6 := row_cap rT8 HL.out.2.2.symm
                  have hc13 := row_cap rF8 rfl
                  obtain ⟨hsA, hqA⟩ := sl_upto A6 (k := q) (L := L) (c := c6) rfl (by have := HL.out.1; omega) hc6
                  obtain ⟨hsB, hqB⟩ := sl_upto A13 (k := q) (L := F.length) (c := c13) rfl hqF hc13
                  have g1 : decide ((q : Int) ≤ (K : Int)) = true := decide_eq_true (by omega)
                  have g2 : decide (q ≤ K) = true := decide_eq_true (by omega)
                  have RS := Lib.hid (fun W (hW : Below wr.heap.size wr W) => rsame_quiet HqT.out (hqA W T (rT8.at_ hW).reads) (hqB W F (rF8.at_ hW).reads) (by rw [List.length_take]; omega))
                  go_wp2
                  refine wp_region_quiet_below (by kernel_rfl) (by kernel_rfl) ?_
                  repeat (first  | go_big_quiet_step (first | with_reducible exact calls_regrown _ (fun W _ => AW.out W) | with_reducible exact calls_regrown _ (fun W hW => RS.out W hW) | fail))
                  refine wpQuiet_nil ?_
                  intro w1 hw1
                  have hBq := below_of_regrown hw1
                  go_wp2
                  go_ret
                  exact ⟨rfl, B8.trans (hBq.mono B8.size)⟩
                · have f1 : decide ((q : Int) < (F.length : Int)) = true := decide_eq_true (by omega)
                  have q1 : (q : Int) < (F.length : Int) := by omega
                  have hz : (⟨s.toArray⟩ : ByteArray).size = s.length := str_size s
                  have hfs := Jr.fl_succ hs
                  have Hfs := Lib.hid hfs
                  have v1 : IntKind.i64.wrap ((C.fl F q : Int) + 8) = ((C.fl F q + 8 : Nat) : Int) := by rw [IntWalk.i64_in _ (by omega)]; omega
                  have v2 : IntKind.i64.wrap (((C.fl F q + 8 : Nat) : Int) + (s.length : Int)) = ((C.fl F q + 8 + s.length : Nat) : Int) := by rw [IntWalk.i64_in _ (by omega)]; omega
                  have v2' : IntKind.i64.wrap ((C.fl F q : Int) + 8 + (s.length : Int)) = ((C.fl F q + 8 + s.length : Nat) : Int) := by rw [IntWalk.i64_in _ (by omega)]; omega
                  have v3 : IntKind.i64.wrap (8 + (s.length : Int)) = ((8 + s.length : Nat) : Int) := by rw [IntWalk.i64_in _ (by omega)]; omega
                  have v4 : IntKind.i64.wrap ((C.fl F q : Int) + ((8 + s.length : Nat) : Int)) = ((C.fl F q + (8 + s.length) : Nat) : Int) := by rw [IntWalk.i64_in _ (by omega)]; omega
                  have v4' : IntKind.i64.wrap ((C.fl F q : Int) + (8 + (s.length : Int))) = ((C.fl F q + (8 + s.length) : Nat) : Int) := by rw [IntWalk.i64_in _ (by omega)]; omega
                  by_cases hgo : C.fl F q + 8 + s.length ≤ a
                  · have u1 : decide (((C.fl F q + 8 + s.length : Nat) : Int) ≤ (a : Int)) = true := decide_eq_true (by omega)
                    have u2 : decide (C.fl F q + 8 + s.length ≤ a) = true := decide_eq_true (by omega)
                    have u3 : decide ((C.fl F q : Int) + 8 + (s.length : Int) ≤ (a : Int)) = true := decide_eq_true (by omega)
                    have w1 : IntKind.i64.wrap ((q : Int) + 1) = ((q + 1 : Nat) : Int) := by rw [IntWalk.i64_in _ (by omega)]; omega
                    clear hfs hs
                    generalize C.fl F q = P at *
                    go_wp2
                    go_roundw
                    case rel => exact ⟨q + 1, by omega, rfl, by rw [Hfs.out]; congr 1; omega, by rw [Hfs.out]; omega, (by first | rfl | trivial)⟩
                    case measure => simp [intOf]; omega
                  · have u1 : decide (((C.fl F q + 8 + s.length : Nat) : Int) ≤ (a : Int)) = false := decide_eq_false (by omega)
                    have u2 : decide (C.fl F q + 8 + s.length ≤ a) = false := decide_eq_false (by omega)
                    have u3 : decide ((C.fl F q : Int) + 8 + (s.length : Int) ≤ (a : Int)) = false := decide_eq_false (by omega)
                    clear hfs hs
                    generalize C.fl F q = P at *
                    have hc6 := row_cap rT8 HL.out.2.2.symm
                    have hc13 := row_cap rF8 rfl
                    obtain ⟨hsA, hqA⟩ := sl_upto A6 (k := q) (L := L) (c := c6) rfl (by have := HL.out.1; omega) hc6
                    obtain ⟨hsB, hqB⟩ := sl_upto (some ⟨g, o, none⟩) (k := q) (L := F.length) (c := c13) rfl hqF hc13
                    have g1 : decide ((q : Int) ≤ (K : Int)) = true := decide_eq_true (by omega)
                    have g2 : decide (q ≤ K) = true := decide_eq_true (by omega)
                    have RS := Lib.hid (fun W (hW : Below wr.heap.size wr W) => rsame_quiet HqT.out (hqA W T (rT8.at_ hW).reads) (hqB W F (rF8.at_ hW).reads) (by rw [List.length_take]; omega))
                    go_wp2
                    refine wp_region_quiet_below (by kernel_rfl) (by kernel_rfl) ?_
                    repeat (first  | go_big_quiet_step (first | with_reducible exact calls_regrown _ (fun W _ => AW.out W) | with_reducible exact calls_regrown _ (fun W hW => RS.out W hW) | fail))
                    refine wpQuiet_nil ?_
                    intro w1 hw1
                    have hBq := below_of_regrown hw1
                    go_wp2
                    go_ret
                    exact ⟨rfl, B8.trans (hBq.mono B8.size)⟩
      · skip
        go_wp2_with (go_at_call 60; (with_reducible refine TU.out.mono ?_); rintro e w3 ⟨rfl, j3, o3⟩)
        have k3 := hdk.turned hj o3
        have row3 := hrow.onlyBlk hj (by decide) o3
        have r143 := hr14.onlyBlk hj (by decide) o3
        have B3 := o3.below hB hjp
        clear hj hdk hrow hr14 o3 hB TU
        go_loopw [14, 17] (fun u i wr => ∃ (k : Nat) (G : List (List UInt8)), k ≤ tb.length ∧ k ≤ 10 ∧ i = .int .i64 (k : Int) ∧ G.length ≤ k ∧ (∀ t ∈ G, t.length ≤ 100) ∧ JrAt wr jb p 1 ∧ DkAt w.heap.size wr p (Jr.mk 1048576 (Jr.seg 0 F ++ Jr.seg 1 G)) ∧ Row1 wr 9 u (G.map strV) ∧ (u.ownBlock = none ∨ ∃ k, w.heap.size ≤ k ∧ u.ownBlock = some k) ∧ Row1 wr 9 (.slice A13 F.length c13) (F.map strV) ∧ (∀ g, u.ownBlock = some g → (Value.slice A13 F.length c13).ownBlock ≠ some g) ∧ Below w.heap.size w wr) (fun _ i _ => 10 - (intOf i).toNat)
        case atStart => exact ⟨0, [], by omega, by omega, rfl, Nat.le_refl _, by simp, j3, (by rw [Jr.seg_nil, List.append_nil]; exact k3), r143, .inr ⟨b14, own14, rfl⟩, row3, (by intro g hg h9; simp only [Value.ownBlock, Option.some.injEq] at hg; exact hne g h9 hg.symm), B3⟩
        case round =>
          clear r143 row3 j3 k3 B3 hne
          obtain ⟨k, G, hk1, hk2, rfl, hGk, hG, hj, hdk, hrow, hown, hrF, hne, hB⟩ := hrel
          have q0 : (0 : Int) ≤ (k : Int) := by omega
          have hGl := Jr.frames_le G hG
          by_cases hmore : k < tb.length ∧ k < 10
          · obtain ⟨hm1, hm2⟩ := hmore
            have d2 : decide ((k : Int) < (tb.length : Int)) = true := decide_eq_true (by omega)
            have d3 : decide ((k : Int) < 10) = true := decide_eq_true (by omega)
            have q1 : (k : Int) < (tb.length : Int) := by omega
            obtain ⟨s0, hs0⟩ : ∃ t, tb[k]? = some t := ⟨_, List.getElem?_eq_getElem hm1⟩
            obtain ⟨g, o, rfl, hg, hcl⟩ := sread_at hTb hs0
            have cT : wr.cell? ⟨g, o + k, none⟩ = some (.string ⟨s0.toArray⟩) := (hB.cell (p := ⟨g, o + k, none⟩) hg).trans hcl
            have CU := Lib.hid (fun W => lcut_to s0 100 (z := 100) rfl W)
            have hsz : (s0.take 100).length ≤ 100 := by rw [List.length_take]; omega
            generalize s0.take 100 = s at *
            have hw1 : IntKind.i64.wrap ((k : Int) + 1) = ((k + 1 : Nat) : Int) := by rw [IntWalk.i64_in _ (by omega)]; omega
            have hus0 : D.used (Jr.files (Jr.seg 0 F)) = (C.frames F).length := by have := Jr.used_seg [] 0 F; rw [List.nil_append] at this; rw [this]; show 0 + _ = _; omega
            have hus := Jr.used_seg (Jr.seg 0 F) 1 G
            have hadd := Jr.add_seg (room := 1048576) (l := Jr.seg 0 F) (n := 1) (G := G) (s := s) (by have := Jr.Up.nil.seg (n := 0) (G := F) (by omega) (by simp); rwa [List.nil_append] at this) (by omega) (by intro z hz; rw [Jr.seg_k z hz]; omega) (by omega) (by have := Jr.seg_len 0 F; omega)
            have AD := Lib.hid (jadd_to (z := 0) hdk hj (by omega) s (by omega) (by show D.used (Jr.files (Jr.seg 0 F ++ Jr.seg 1 G)) + _ ≤ _; omega) hadd rfl)
            have hlen : (G.map strV).length + 1 ≤ 1000000 := by rw [List.length_map]; omega
            have Htx : Hid (G.map strV ++ [strV s] = (G ++ [s]).map strV) := Lib.hid (by rw [List.map_append]; rfl)
            have Hl := Lib.hid (show (G ++ [s]).length ≤ k + 1 by rw [List.length_append, List.length_singleton]; omega)
            have Hs : Hid (∀ t ∈ G ++ [s], t.length ≤ 100) := Lib.hid (by
              intro t ht
              rcases List.mem_append.1 ht with h | h
              · exact hG t h
              · rw [List.mem_singleton.1 h]; exact hsz)
            clear hadd hus hus0 hGl hFl
            go_wp2_with (first | (go_at_call 19; (with_reducible refine (CU.out _).mono ?_); rintro e w3 ⟨rfl, rfl⟩) | (go_at_call 57; (with_reducible refine AD.out.mono ?_); rintro e w4 ⟨rfl, k4, s4⟩; have j4 := hj.dstp s4; have hrow4 := hrow.dstp s4 (by decide) (by decide); have B4 := hB.trans s4.below) | (at_builtin; refine wpList_append_row rfl info_str (.tmp 83) (.tmp 85) 35 rfl Try.underlying35 rfl (hrow4.alloc _) ⟨w4.heap.size, 0, none⟩ 1 1 [strV s] rfl rfl (new_cells _ _ _ rfl _) (str_one [s]) (by omega) ?_; intro v5 w5 hrow5 hg5 hr5))
            rw [Htx.out] at hrow5
            have b45 := (Below.refl w4.heap.size w4).alloc (Nat.le_refl _) (.cells #[strV s] 9)
            have B45 := B4.trans (b45.mono B4.size)
            have B5 := below_grown_own B45 B45.size hg5 hown
            have hown5 := own_later hown B45.size hr5
            have j5 : JrAt w5 jb p 1 := Blk.grownRow (j4.at_ b45) (hrow4.alloc _) (by decide) hg5
            have k5 := (k4.at_ b45).grown (hrow4.alloc _) (by decide) hg5
            have rF4 := (hrF.dstp s4 (by decide) (by decide)).at_ b45
            have rF5 := rF4.grown hg5 (fun g h1 h2 => hne g h2 h1)
            have lF : ∀ g, (Value.slice A13 F.length c13).ownBlock = some g → g < (w4.alloc (.cells #[strV s] 9)).heap.size := fun g h => rF4.lt h
            have hne5 : ∀ g, v5.ownBlock = some g → (Value.slice A13 F.length c13).ownBlock ≠ some g := by
              intro g hg0 h9
              rcases hr5 with e | ⟨k9, hk9, e⟩
              · rw [e] at hg0; exact hne g hg0 h9
              · rw [e] at hg0; injection hg0 with hg0
                have hk9' : (w4.alloc (.cells #[strV s] 9)).heap.size ≤ k9 := hk9
                have := lF g h9
                omega
            go_roundw
            case rel => exact ⟨k + 1, G ++ [s], by omega, by omega, rfl, Hl.out, Hs.out, j5, k5, hrow5, hown5, rF5, hne5, B5⟩
            case measure => simp [intOf]; omega
          · have hsplit : (decide ((k : Int) < (tb.length : Int)) = false ∧ decide (k < tb.length) = false) ∨ (decide ((k : Int) < (tb.length : Int)) = true ∧ decide (k < tb.length) = true ∧ decide ((k : Int) < 10) = false ∧ decide (k < 10) = false) := by
              by_cases h9 : k < tb.length
              · exact .inr ⟨decide_eq_true (by omega), decide_eq_true (by omega), decide_eq_false (by omega), decide_eq_false (by omega)⟩
              · exact .inl ⟨decide_eq_false (by omega), decide_eq_false (by omega)⟩
            have hG10 : G.length ≤ 10 := by omega
            obtain ⟨A14, c14, rfl, hrow⟩ := row_open hrow
            clear hmore hown hTb hbl hGk hk1 hk2 hne hj
            rcases hsplit with ⟨h1, h2⟩ | ⟨h1, h2, h3, h4⟩
            · skip
              have hupF : Jr.Up (Jr.seg 0 F) := by have := Jr.Up.nil.seg (n := 0) (G := F) (by omega) (by simp); rwa [List.nil_append] at this
              have hup : Jr.Up (Jr.seg 0 F ++ Jr.seg 1 G) := hupF.seg (by omega) (by intro z hz; rw [Jr.seg_k z hz]; omega)
              have hus0 : D.used (Jr.files (Jr.seg 0 F)) = (C.frames F).length := by have := Jr.used_seg [] 0 F; rw [List.nil_append] at this; rw [this]; show 0 + _ = _; omega
              have hus : D.used (Jr.files (Jr.seg 0 F ++ Jr.seg 1 G)) ≤ 10000 := by rw [Jr.used_seg, hus0]; omega
              have N0 := Lib.hid (fun W => jname_to (z := 0) 0 (by decide) rfl rfl W)
              have l14 : (Jr.name 0).length ≤ 9223372036854775807 := by rw [Jr.name_length]; decide
              by_cases hbad : F = [] ∨ at_ < 0 ∨ ((C.frames F).length : Int) ≤ at_
              · obtain ⟨e', he', hsp⟩ : ∃ e', e' ≠ 0 ∧ D.spoil (Jr.mk 1048576 (Jr.seg 0 F ++ Jr.seg 1 G)) (Jr.name 0) at_ y = (Jr.mk 1048576 (Jr.seg 0 F ++ Jr.seg 1 G), e') := by
                  by_cases hFn : F = []
                  · refine ⟨7, by omega, ?_⟩
                    have hn : D.fnd D.Fl.name (Jr.name 0) (Jr.files (Jr.seg 0 F ++ Jr.seg 1 G)) = none := Jr.find_none hup (by omega) (by
                      rw [hFn, Jr.seg_nil, List.nil_append]
                      intro z hz
                      rw [Jr.seg_k z hz]; omega)
                    unfold D.spoil
                    rw [show (Jr.mk 1048576 (Jr.seg 0 F ++ Jr.seg 1 G)).files = Jr.files (Jr.seg 0 F ++ Jr.seg 1 G) from rfl, hn]
                  · refine ⟨1, by omega, ?_⟩
                    rw [Jr.seg_cons 0 hFn, List.singleton_append] at hup ⊢
                    have := Jr.spoil_seg (room := 1048576) (at_ := at_) (y := y) hup
                    rw [if_pos (hbad.resolve_left hFn)] at this
                    exact this
                have SP := Lib.hid (fun W (h : DkAt w.heap.size W p (Jr.mk 1048576 (Jr.seg 0 F ++ Jr.seg 1 G))) => spoil_u8 (z := (e' : Int)) h (Jr.name 0) at_ y l14 hat (by show D.used (Jr.files _) ≤ _; omega) hsp Hx.out rfl)
                have de : ((e' : Int) != 0) = true := by rw [bne_iff_ne]; omega
                clear hsp hbad hup hupF hus hus0
                generalize Jr.name 0 = nm at *
                go_wp2_with (first | (go_at_call 61; (with_reducible refine (N0.out _).mono ?_); rintro e w3 ⟨rfl, b3⟩) | (go_at_call 49; (with_reducible refine (SP.out _ (hdk.at_ b3)).mono ?_); rintro e w4 ⟨rfl, k4, s4⟩) | (go_at_call 59; (with_reducible refine (AW.out _).mono ?_); rintro e w5 ⟨rfl, b5⟩))
                go_ret
                have B4 := (hB.trans (b3.mono hB.size)).trans s4.below
                exact ⟨rfl, B4.trans (b5.mono B4.size)⟩
              have hFn : F ≠ [] := fun e => hbad (.inl e)
              have hat0 : ¬ (at_ < 0 ∨ ((C.frames F).length : Int) ≤ at_) := fun e => hbad (.inr e)
              rw [Jr.seg_cons 0 hFn, List.singleton_append] at hup hdk hus
              have hsp := Jr.spoil_seg (room := 1048576) (at_ := at_) (y := y) hup
              rw [if_neg hat0] at hsp
              obtain ⟨a, rfl⟩ : ∃ a : Nat, at_ = (a : Int) := ⟨at_.toNat, by omega⟩
              rw [Int.toNat_natCast] at hsp
              have hF6 : ∀ t ∈ F, t.length ≤ 65536 := fun t ht => Nat.le_trans (hF t ht) (by decide)
              have hG6 : ∀ t ∈ G, t.length ≤ 65536 := fun t ht => Nat.le_trans (hG t ht) (by decide)
              have hset := fun k (hk : C.fl F k ≤ a) => Jr.all_set hF6 hk ((C.frames F).getD a 0 ^^^ y)
              have hbl9 : ((C.frames F).set a ((C.frames F).getD a 0 ^^^ y)).length = (C.frames F).length := List.length_set
              dsimp only at hsp hup hdk hus
              generalize (C.frames F).set a ((C.frames F).getD a 0 ^^^ y) = b' at *
              have hup' : Jr.Up (⟨0, b', (C.frames F).length⟩ :: Jr.seg 1 G) := ⟨List.pairwise_cons.2 ⟨fun z hz => (List.pairwise_cons.1 hup.1).1 z hz, (List.pairwise_cons.1 hup.1).2⟩, by
                intro z hz
                rcases List.mem_cons.1 hz with e | e
                · rw [e]; show 0 < _; omega
                · exact hup.2 z (List.mem_cons_of_mem _ e)⟩
              have hus' : D.used (Jr.files (⟨0, b', (C.frames F).length⟩ :: Jr.seg 1 G)) ≤ 10000 := by
                have e1 := D.used_cons (Jr.fl ⟨0, C.frames F, (C.frames F).length⟩) (Jr.files (Jr.seg 1 G))
                have e2 := D.used_cons (Jr.fl ⟨0, b', (C.frames F).length⟩) (Jr.files (Jr.seg 1 G))
                have e3 : (Jr.fl ⟨0, b', (C.frames F).length⟩).b.length = (Jr.fl ⟨0, C.frames F, (C.frames F).length⟩).b.length := hbl9
                show D.used (Jr.fl ⟨0, b', (C.frames F).length⟩ :: Jr.files (Jr.seg 1 G)) ≤ _
                rw [e2, e3, ← e1]
                exact hus
              have ht' : Jr.texts (⟨0, b', (C.frames F).length⟩ :: Jr.seg 1 G) = (C.all b').1 ++ G := by rw [Jr.texts_cons, Jr.texts_seg hG6]
              have hKb := C.all_few b'
              have SP := Lib.hid (fun W (h : DkAt w.heap.size W p (Jr.mk 1048576 (⟨0, C.frames F, (C.frames F).length⟩ :: Jr.seg 1 G))) => spoil_u8 (z := 0) h (Jr.name 0) (a : Int) y l14 hat (by show D.used (Jr.files _) ≤ _; omega) hsp Hx.out rfl)
              by_cases hy0 : x = 0
              · subst hy0
                clear hsp hbad hup hupF hus hus0 hset hup' hus' ht'
                generalize Jr.name 0 = nm at *
                go_wp2_with (first | (go_at_call 61; (with_reducible refine (N0.out _).mono ?_); rintro e w3 ⟨rfl, b3⟩) | (go_at_call 49; (with_reducible refine (SP.out _ (hdk.at_ b3)).mono ?_); rintro e w4 ⟨rfl, k4, s4⟩) | (go_at_call 59; (with_reducible refine (AW.out _).mono ?_); rintro e w5 ⟨rfl, b5⟩))
                go_ret
                have B4 := (hB.trans (b3.mono hB.size)).trans s4.below
                exact ⟨rfl, B4.trans (b5.mono B4.size)⟩
              have dx : (x == 0) = false := beq_eq_false_iff_ne.2 hy0
              obtain ⟨K, hK⟩ : ∃ K, K = (C.all b').1.length := ⟨_, rfl⟩
              have hTl : ((C.all b').1 ++ G).length = K + G.length := by rw [List.length_append, hK]
              have hTd : ((C.all b').1 ++ G).drop K = G := by rw [hK, List.drop_left]
              have hTt : ∀ k R, (C.all b').1 = F.take k ++ R → k ≤ F.length → ((C.all b').1 ++ G).take k = F.take k ∧ k ≤ K := by
                intro k R e hk
                have h9 : (F.take k).length = k := by rw [List.length_take]; omega
                rw [hK, e, List.append_assoc, List.length_append, h9]
                refine ⟨?_, by omega⟩
                have := List.take_left (l₁ := F.take k) (l₂ := R ++ G)
                rwa [h9] at this
              have hTq : ∀ k, C.fl F k ≤ a → k ≤ F.length → ((C.all b').1 ++ G).take k = F.take k ∧ k ≤ K := fun k h1 h2 => by
                obtain ⟨R, hR⟩ := hset k h1
                exact hTt k R hR h2
              rw [← hK] at hKb
              have hK2 : K ≤ 2000 := by omega
              obtain ⟨L, hL⟩ : ∃ L, L = K + G.length := ⟨_, rfl⟩
              rw [← hL] at hTl
              have O2 := Lib.hid (fun W (h : DkAt w.heap.size W p (Jr.mk 1048576 (⟨0, b', (C.frames F).length⟩ :: Jr.seg 1 G))) => jopen_to (n := Jr.next (⟨0, b', (C.frames F).length⟩ :: Jr.seg 1 G)) (T := (C.all b').1 ++ G) h rfl rfl hup' (by show D.used (Jr.files _) ≤ _; omega) rfl ht' (L := L) hTl)
              have Hq := Lib.hid hTq
              have Hd := Lib.hid hTd
              have Ha : Hid ((a : Int) < 9223372036854775808) := Lib.hid hat.2
              have hfl : ∀ q, C.fl F q ≤ 108 * q := Jr.fl_le F hF
              have Hfl := Lib.hid hfl
              clear hsp hbad hup hupF hus hus0 hset hup' hus' ht' hTt hTq hTd hat0 hat hFn hy0 hF6 hG6 hFl hGl hbl9 hKb hK hfl
              generalize (C.all b').1 ++ G = T at *
              generalize Jr.name 0 = nm at *
              have e1 : decide ((L : Int) < (G.length : Int)) = false := decide_eq_false (by omega)
              have e2 : decide (L < G.length) = false := decide_eq_false (by omega)
              have hw1 : IntKind.i64.wrap ((L : Int) - (G.length : Int)) = (K : Int) := by rw [IntWalk.i64_in _ (by omega)]; omega
              have HL : Hid (K ≤ L ∧ L - K = G.length ∧ L = T.length) := Lib.hid ⟨by omega, by omega, hTl.symm⟩
              clear hL hTl
              go_wp2_with (first | (go_at_call 61; (with_reducible refine (N0.out _).mono ?_); rintro e w3 ⟨rfl, b3⟩) | (go_at_call 49; (with_reducible refine (SP.out _ (hdk.at_ b3)).mono ?_); rintro e w4 ⟨rfl, k4, s4⟩; have rF4 := (hrF.at_ b3).dstp s4 (by decide) (by decide); have rG4 := (hrow.at_ b3).dstp s4 (by decide) (by decide); have B4 := (hB.trans (b3.mono hB.size)).trans s4.below) | (go_at_call 56; (with_reducible refine (O2.out _ k4).mono ?_); rintro e w6 ⟨jj, A6, c6, rfl, q6, j6, r6, k6, b6⟩; have rF6 := rF4.at_ b6; have rG6 := rG4.at_ b6; have B6 := B4.trans (b6.mono B4.size); have hc6 := row_cap r6 HL.out.2.2.symm; obtain ⟨A7, c7, hs7, hq7⟩ := sl_from A6 (k := K) (L := L) (c := c6) (n := G.length) rfl HL.out.1 HL.out.2.1 hc6; have r7 := hq7 _ _ r6.reads; rw [Hd.out] at r7) | (go_at_call 29; (with_reducible refine (rsame_yes rfl r7 rG6.reads (by omega)).mono ?_); rintro e w8 ⟨rfl, nq, rfl⟩))
              have rF8 := rF6.at_ (below_drewN (Below.refl _ _) nq)
              have rT8 := r6.at_ (below_drewN (Below.refl _ _) nq)
              have B8 := below_drewN B6 nq
              clear hs7 hq7 r7 b6 b3 k4 s4 rF4 rG4 rG6 rF6 r6 B4 B6 O2 SP N0 hrF hrow hdk hB e1 e2 k6 j6
              generalize w6.drewN nq = w9 at *
              go_loopw [22, 23] (fun n i wr => ∃ q : Nat, q ≤ F.length ∧ i = .int .i64 (q : Int) ∧ n = .int .i64 (C.fl F q : Int) ∧ C.fl F q ≤ a ∧ wr = w9) (fun _ i _ => F.length - (intOf i).toNat)
              case atStart => exact ⟨0, Nat.zero_le _, rfl, by rw [C.fl_zero]; rfl, by rw [C.fl_zero]; exact Nat.zero_le _, rfl⟩
              case round =>
                obtain ⟨q, hqF, rfl, rfl, hqa, hwr⟩ := hrel
                subst hwr
                have hq108 := Hfl.out q
                have Ha2 := Ha.out
                have q0 : (0 : Int) ≤ (q : Int) := by omega
                have hcase : (decide ((q : Int) < (F.length : Int)) = false ∧ decide (q < F.length) = false) ∨ ∃ s g o, F[q]? = some s ∧ A13 = some ⟨g, o, none⟩ ∧ wr.cell? ⟨g, o + q, none⟩ = some (.string ⟨s.toArray⟩) ∧ s.length ≤ 100 ∧ q < F.length := by
                  by_cases h9 : q < F.length
                  · obtain ⟨s, hs⟩ : ∃ t, F[q]? = some t := ⟨_, List.getElem?_eq_getElem h9⟩
                    obtain ⟨g, o, e, _, hc⟩ := sread_at rF8.reads hs
                    exact .inr ⟨s, g, o, hs, e, hc, hF s (List.mem_of_getElem? hs), h9⟩
                  · exact .inl ⟨decide_eq_false (by omega), decide_eq_false h9⟩
                have hqq := Hq.out q hqa hqF
                have HqT := Lib.hid hqq.1
                have hqK := hqq.2
                clear hqq
                rcases hcase with ⟨f1, f2⟩ | ⟨s, g, o, hs, rfl, cS, hsz, h9⟩
                · skip
                  have hc6 := row_cap rT8 HL.out.2.2.symm
                  have hc13 := row_cap rF8 rfl
                  obtain ⟨hsA, hqA⟩ := sl_upto A6 (k := q) (L := L) (c := c6) rfl (by have := HL.out.1; omega) hc6
                  obtain ⟨hsB, hqB⟩ := sl_upto A13 (k := q) (L := F.length) (c := c13) rfl hqF hc13
                  have g1 : decide ((q : Int) ≤ (K : Int)) = true := decide_eq_true (by omega)
                  have g2 : decide (q ≤ K) = true := decide_eq_true (by omega)
                  have RS := Lib.hid (fun W (hW : Below wr.heap.size wr W) => rsame_quiet HqT.out (hqA W T (rT8.at_ hW).reads) (hqB W F (rF8.at_ hW).reads) (by rw [List.length_take]; omega))
                  go_wp2
                  refine wp_region_quiet_below (by kernel_rfl) (by kernel_rfl) ?_
                  repeat (first  | go_big_quiet_step (first | with_reducible exact calls_regrown _ (fun W _ => AW.out W) | with_reducible exact calls_regrown _ (fun W hW => RS.out W hW) | fail))
                  refine wpQuiet_nil ?_
                  intro w1 hw1
                  have hBq := below_of_regrown hw1
                  go_wp2
                  go_ret
                  exact ⟨rfl, B8.trans (hBq.mono B8.size)⟩
                · have f1 : decide ((q : Int) < (F.length : Int)) = true := decide_eq_true (by omega)
                  have q1 : (q : Int) < (F.length : Int) := by omega
                  have hz : (⟨s.toArray⟩ : ByteArray).size = s.length := str_size s
                  have hfs := Jr.fl_succ hs
                  have Hfs := Lib.hid hfs
                  have v1 : IntKind.i64.wrap ((C.fl F q : Int) + 8) = ((C.fl F q + 8 : Nat) : Int) := by rw [IntWalk.i64_in _ (by omega)]; omega
                  have v2 : IntKind.i64.wrap (((C.fl F q + 8 : Nat) : Int) + (s.length : Int)) = ((C.fl F q + 8 + s.length : Nat) : Int) := by rw [IntWalk.i64_in _ (by omega)]; omega
                  have v2' : IntKind.i64.wrap ((C.fl F q : Int) + 8 + (s.length : Int)) = ((C.fl F q + 8 + s.length : Nat) : Int) := by rw [IntWalk.i64_in _ (by omega)]; omega
                  have v3 : IntKind.i64.wrap (8 + (s.length : Int)) = ((8 + s.length : Nat) : Int) := by rw [IntWalk.i64_in _ (by omega)]; omega
                  have v4 : IntKind.i64.wrap ((C.fl F q : Int) + ((8 + s.length : Nat) : Int)) = ((C.fl F q + (8 + s.length) : Nat) : Int) := by rw [IntWalk.i64_in _ (by omega)]; omega
                  have v4' : IntKind.i64.wrap ((C.fl F q : Int) + (8 + (s.length : Int))) = ((C.fl F q + (8 + s.length) : Nat) : Int) := by rw [IntWalk.i64_in _ (by omega)]; omega
                  by_cases hgo : C.fl F q + 8 + s.length ≤ a
                  · have u1 : decide (((C.fl F q + 8 + s.length : Nat) : Int) ≤ (a : Int)) = true := decide_eq_true (by omega)
                    have u2 : decide (C.fl F q + 8 + s.length ≤ a) = true := decide_eq_true (by omega)
                    have u3 : decide ((C.fl F q : Int) + 8 + (s.length : Int) ≤ (a : Int)) = true := decide_eq_true (by omega)
                    have w1 : IntKind.i64.wrap ((q : Int) + 1) = ((q + 1 : Nat) : Int) := by rw [IntWalk.i64_in _ (by omega)]; omega
                    clear hfs hs
                    generalize C.fl F q = P at *
                    go_wp2
                    go_roundw
                    case rel => exact ⟨q + 1, by omega, rfl, by rw [Hfs.out]; congr 1; omega, by rw [Hfs.out]; omega, (by first | rfl | trivial)⟩
                    case measure => simp [intOf]; omega
                  · have u1 : decide (((C.fl F q + 8 + s.length : Nat) : Int) ≤ (a : Int)) = false := decide_eq_false (by omega)
                    have u2 : decide (C.fl F q + 8 + s.length ≤ a) = false := decide_eq_false (by omega)
                    have u3 : decide ((C.fl F q : Int) + 8 + (s.length : Int) ≤ (a : Int)) = false := decide_eq_false (by omega)
                    clear hfs hs
                    generalize C.fl F q = P at *
                    have hc6 := row_cap rT8 HL.out.2.2.symm
                    have hc13 := row_cap rF8 rfl
                    obtain ⟨hsA, hqA⟩ := sl_upto A6 (k := q) (L := L) (c := c6) rfl (by have := HL.out.1; omega) hc6
                    obtain ⟨hsB, hqB⟩ := sl_upto (some ⟨g, o, none⟩) (k := q) (L := F.length) (c := c13) rfl hqF hc13
                    have g1 : decide ((q : Int) ≤ (K : Int)) = true := decide_eq_true (by omega)
                    have g2 : decide (q ≤ K) = true := decide_eq_true (by omega)
                    have RS := Lib.hid (fun W (hW : Below wr.heap.size wr W) => rsame_quiet HqT.out (hqA W T (rT8.at_ hW).reads) (hqB W F (rF8.at_ hW).reads) (by rw [List.length_take]; omega))
                    go_wp2
                    refine wp_region_quiet_below (by kernel_rfl) (by kernel_rfl) ?_
                    repeat (first  | go_big_quiet_step (first | with_reducible exact calls_regrown _ (fun W _ => AW.out W) | with_reducible exact calls_regrown _ (fun W hW => RS.out W hW) | fail))
                    refine wpQuiet_nil ?_
                    intro w1 hw1
                    have hBq := below_of_regrown hw1
                    go_wp2
                    go_ret
                    exact ⟨rfl, B8.trans (hBq.mono B8.size)⟩
            · skip
              have hupF : Jr.Up (Jr.seg 0 F) := by have := Jr.Up.nil.seg (n := 0) (G := F) (by omega) (by simp); rwa [List.nil_append] at this
              have hup : Jr.Up (Jr.seg 0 F ++ Jr.seg 1 G) := hupF.seg (by omega) (by intro z hz; rw [Jr.seg_k z hz]; omega)
              have hus0 : D.used (Jr.files (Jr.seg 0 F)) = (C.frames F).length := by have := Jr.used_seg [] 0 F; rw [List.nil_append] at this; rw [this]; show 0 + _ = _; omega
              have hus : D.used (Jr.files (Jr.seg 0 F ++ Jr.seg 1 G)) ≤ 10000 := by rw [Jr.used_seg, hus0]; omega
              have N0 := Lib.hid (fun W => jname_to (z := 0) 0 (by decide) rfl rfl W)
              have l14 : (Jr.name 0).length ≤ 9223372036854775807 := by rw [Jr.name_length]; decide
              by_cases hbad : F = [] ∨ at_ < 0 ∨ ((C.frames F).length : Int) ≤ at_
              · obtain ⟨e', he', hsp⟩ : ∃ e', e' ≠ 0 ∧ D.spoil (Jr.mk 1048576 (Jr.seg 0 F ++ Jr.seg 1 G)) (Jr.name 0) at_ y = (Jr.mk 1048576 (Jr.seg 0 F ++ Jr.seg 1 G), e') := by
                  by_cases hFn : F = []
                  · refine ⟨7, by omega, ?_⟩
                    have hn : D.fnd D.Fl.name (Jr.name 0) (Jr.files (Jr.seg 0 F ++ Jr.seg 1 G)) = none := Jr.find_none hup (by omega) (by
                      rw [hFn, Jr.seg_nil, List.nil_append]
                      intro z hz
                      rw [Jr.seg_k z hz]; omega)
                    unfold D.spoil
                    rw [show (Jr.mk 1048576 (Jr.seg 0 F ++ Jr.seg 1 G)).files = Jr.files (Jr.seg 0 F ++ Jr.seg 1 G) from rfl, hn]
                  · refine ⟨1, by omega, ?_⟩
                    rw [Jr.seg_cons 0 hFn, List.singleton_append] at hup ⊢
                    have := Jr.spoil_seg (room := 1048576) (at_ := at_) (y := y) hup
                    rw [if_pos (hbad.resolve_left hFn)] at this
                    exact this
                have SP := Lib.hid (fun W (h : DkAt w.heap.size W p (Jr.mk 1048576 (Jr.seg 0 F ++ Jr.seg 1 G))) => spoil_u8 (z := (e' : Int)) h (Jr.name 0) at_ y l14 hat (by show D.used (Jr.files _) ≤ _; omega) hsp Hx.out rfl)
                have de : ((e' : Int) != 0) = true := by rw [bne_iff_ne]; omega
                clear hsp hbad hup hupF hus hus0
                generalize Jr.name 0 = nm at *
                go_wp2_with (first | (go_at_call 61; (with_reducible refine (N0.out _).mono ?_); rintro e w3 ⟨rfl, b3⟩) | (go_at_call 49; (with_reducible refine (SP.out _ (hdk.at_ b3)).mono ?_); rintro e w4 ⟨rfl, k4, s4⟩) | (go_at_call 59; (with_reducible refine (AW.out _).mono ?_); rintro e w5 ⟨rfl, b5⟩))
                go_ret
                have B4 := (hB.trans (b3.mono hB.size)).trans s4.below
                exact ⟨rfl, B4.trans (b5.mono B4.size)⟩
              have hFn : F ≠ [] := fun e => hbad (.inl e)
              have hat0 : ¬ (at_ < 0 ∨ ((C.frames F).length : Int) ≤ at_) := fun e => hbad (.inr e)
              rw [Jr.seg_cons 0 hFn, List.singleton_append] at hup hdk hus
              have hsp := Jr.spoil_seg (room := 1048576) (at_ := at_) (y := y) hup
              rw [if_neg hat0] at hsp
              obtain ⟨a, rfl⟩ : ∃ a : Nat, at_ = (a : Int) := ⟨at_.toNat, by omega⟩
              rw [Int.toNat_natCast] at hsp
              have hF6 : ∀ t ∈ F, t.length ≤ 65536 := fun t ht => Nat.le_trans (hF t ht) (by decide)
              have hG6 : ∀ t ∈ G, t.length ≤ 65536 := fun t ht => Nat.le_trans (hG t ht) (by decide)
              have hset := fun k (hk : C.fl F k ≤ a) => Jr.all_set hF6 hk ((C.frames F).getD a 0 ^^^ y)
              have hbl9 : ((C.frames F).set a ((C.frames F).getD a 0 ^^^ y)).length = (C.frames F).length := List.length_set
              dsimp only at hsp hup hdk hus
              generalize (C.frames F).set a ((C.frames F).getD a 0 ^^^ y) = b' at *
              have hup' : Jr.Up (⟨0, b', (C.frames F).length⟩ :: Jr.seg 1 G) := ⟨List.pairwise_cons.2 ⟨fun z hz => (List.pairwise_cons.1 hup.1).1 z hz, (List.pairwise_cons.1 hup.1).2⟩, by
                intro z hz
                rcases List.mem_cons.1 hz with e | e
                · rw [e]; show 0 < _; omega
                · exact hup.2 z (List.mem_cons_of_mem _ e)⟩
              have hus' : D.used (Jr.files (⟨0, b', (C.frames F).length⟩ :: Jr.seg 1 G)) ≤ 10000 := by
                have e1 := D.used_cons (Jr.fl ⟨0, C.frames F, (C.frames F).length⟩) (Jr.files (Jr.seg 1 G))
                have e2 := D.used_cons (Jr.fl ⟨0, b', (C.frames F).length⟩) (Jr.files (Jr.seg 1 G))
                have e3 : (Jr.fl ⟨0, b', (C.frames F).length⟩).b.length = (Jr.fl ⟨0, C.frames F, (C.frames F).length⟩).b.length := hbl9
                show D.used (Jr.fl ⟨0, b', (C.frames F).length⟩ :: Jr.files (Jr.seg 1 G)) ≤ _
                rw [e2, e3, ← e1]
                exact hus
              have ht' : Jr.texts (⟨0, b', (C.frames F).length⟩ :: Jr.seg 1 G) = (C.all b').1 ++ G := by rw [Jr.texts_cons, Jr.texts_seg hG6]
              have hKb := C.all_few b'
              have SP := Lib.hid (fun W (h : DkAt w.heap.size W p (Jr.mk 1048576 (⟨0, C.frames F, (C.frames F).length⟩ :: Jr.seg 1 G))) => spoil_u8 (z := 0) h (Jr.name 0) (a : Int) y l14 hat (by show D.used (Jr.files _) ≤ _; omega) hsp Hx.out rfl)
              by_cases hy0 : x = 0
              · subst hy0
                clear hsp hbad hup hupF hus hus0 hset hup' hus' ht'
                generalize Jr.name 0 = nm at *
                go_wp2_with (first | (go_at_call 61; (with_reducible refine (N0.out _).mono ?_); rintro e w3 ⟨rfl, b3⟩) | (go_at_call 49; (with_reducible refine (SP.out _ (hdk.at_ b3)).mono ?_); rintro e w4 ⟨rfl, k4, s4⟩) | (go_at_call 59; (with_reducible refine (AW.out _).mono ?_); rintro e w5 ⟨rfl, b5⟩))
                go_ret
                have B4 := (hB.trans (b3.mono hB.size)).trans s4.below
                exact ⟨rfl, B4.trans (b5.mono B4.size)⟩
              have dx : (x == 0) = false := beq_eq_false_iff_ne.2 hy0
              obtain ⟨K, hK⟩ : ∃ K, K = (C.all b').1.length := ⟨_, rfl⟩
              have hTl : ((C.all b').1 ++ G).length = K + G.length := by rw [List.length_append, hK]
              have hTd : ((C.all b').1 ++ G).drop K = G := by rw [hK, List.drop_left]
              have hTt : ∀ k R, (C.all b').1 = F.take k ++ R → k ≤ F.length → ((C.all b').1 ++ G).take k = F.take k ∧ k ≤ K := by
                intro k R e hk
                have h9 : (F.take k).length = k := by rw [List.length_take]; omega
                rw [hK, e, List.append_assoc, List.length_append, h9]
                refine ⟨?_, by omega⟩
                have := List.take_left (l₁ := F.take k) (l₂ := R ++ G)
                rwa [h9] at this
              have hTq : ∀ k, C.fl F k ≤ a → k ≤ F.length → ((C.all b').1 ++ G).take k = F.take k ∧ k ≤ K := fun k h1 h2 => by
                obtain ⟨R, hR⟩ := hset k h1
                exact hTt k R hR h2
              rw [← hK] at hKb
              have hK2 : K ≤ 2000 := by omega
              obtain ⟨L, hL⟩ : ∃ L, L = K + G.length := ⟨_, rfl⟩
              rw [← hL] at hTl
              have O2 := Lib.hid (fun W (h : DkAt w.heap.size W p (Jr.mk 1048576 (⟨0, b', (C.frames F).length⟩ :: Jr.seg 1 G))) => jopen_to (n := Jr.next (⟨0, b', (C.frames F).length⟩ :: Jr.seg 1 G)) (T := (C.all b').1 ++ G) h rfl rfl hup' (by show D.used (Jr.files _) ≤ _; omega) rfl ht' (L := L) hTl)
              have Hq := Lib.hid hTq
              have Hd := Lib.hid hTd
              have Ha : Hid ((a : Int) < 9223372036854775808) := Lib.hid hat.2
              have hfl : ∀ q, C.fl F q ≤ 108 * q := Jr.fl_le F hF
              have Hfl := Lib.hid hfl
              clear hsp hbad hup hupF hus hus0 hset hup' hus' ht' hTt hTq hTd hat0 hat hFn hy0 hF6 hG6 hFl hGl hbl9 hKb hK hfl
              generalize (C.all b').1 ++ G = T at *
              generalize Jr.name 0 = nm at *
              have e1 : decide ((L : Int) < (G.length : Int)) = false := decide_eq_false (by omega)
              have e2 : decide (L < G.length) = false := decide_eq_false (by omega)
              have hw1 : IntKind.i64.wrap ((L : Int) - (G.length : Int)) = (K : Int) := by rw [IntWalk.i64_in _ (by omega)]; omega
              have HL : Hid (K ≤ L ∧ L - K = G.length ∧ L = T.length) := Lib.hid ⟨by omega, by omega, hTl.symm⟩
              clear hL hTl
              go_wp2_with (first | (go_at_call 61; (with_reducible refine (N0.out _).mono ?_); rintro e w3 ⟨rfl, b3⟩) | (go_at_call 49; (with_reducible refine (SP.out _ (hdk.at_ b3)).mono ?_); rintro e w4 ⟨rfl, k4, s4⟩; have rF4 := (hrF.at_ b3).dstp s4 (by decide) (by decide); have rG4 := (hrow.at_ b3).dstp s4 (by decide) (by decide); have B4 := (hB.trans (b3.mono hB.size)).trans s4.below) | (go_at_call 56; (with_reducible refine (O2.out _ k4).mono ?_); rintro e w6 ⟨jj, A6, c6, rfl, q6, j6, r6, k6, b6⟩; have rF6 := rF4.at_ b6; have rG6 := rG4.at_ b6; have B6 := B4.trans (b6.mono B4.size); have hc6 := row_cap r6 HL.out.2.2.symm; obtain ⟨A7, c7, hs7, hq7⟩ := sl_from A6 (k := K) (L := L) (c := c6) (n := G.length) rfl HL.out.1 HL.out.2.1 hc6; have r7 := hq7 _ _ r6.reads; rw [Hd.out] at r7) | (go_at_call 29; (with_reducible refine (rsame_yes rfl r7 rG6.reads (by omega)).mono ?_); rintro e w8 ⟨rfl, nq, rfl⟩))
              have rF8 := rF6.at_ (below_drewN (Below.refl _ _) nq)
              have rT8 := r6.at_ (below_drewN (Below.refl _ _) nq)
              have B8 := below_drewN B6 nq
              clear hs7 hq7 r7 b6 b3 k4 s4 rF4 rG4 rG6 rF6 r6 B4 B6 O2 SP N0 hrF hrow hdk hB e1 e2 k6 j6
              generalize w6.drewN nq = w9 at *
              go_loopw [22, 23] (fun n i wr => ∃ q : Nat, q ≤ F.length ∧ i = .int .i64 (q : Int) ∧ n = .int .i64 (C.fl F q : Int) ∧ C.fl F q ≤ a ∧ wr = w9) (fun _ i _ => F.length - (intOf i).toNat)
              case atStart => exact ⟨0, Nat.zero_le _, rfl, by rw [C.fl_zero]; rfl, by rw [C.fl_zero]; exact Nat.zero_le _, rfl⟩
              case round =>
                obtain ⟨q, hqF, rfl, rfl, hqa, hwr⟩ := hrel
                subst hwr
                have hq108 := Hfl.out q
                have Ha2 := Ha.out
                have q0 : (0 : Int) ≤ (q : Int) := by omega
                have hcase : (decide ((q : Int) < (F.length : Int)) = false ∧ decide (q < F.length) = false) ∨ ∃ s g o, F[q]? = some s ∧ A13 = some ⟨g, o, none⟩ ∧ wr.cell? ⟨g, o + q, none⟩ = some (.string ⟨s.toArray⟩) ∧ s.length ≤ 100 ∧ q < F.length := by
                  by_cases h9 : q < F.length
                  · obtain ⟨s, hs⟩ : ∃ t, F[q]? = some t := ⟨_, List.getElem?_eq_getElem h9⟩
                    obtain ⟨g, o, e, _, hc⟩ := sread_at rF8.reads hs
                    exact .inr ⟨s, g, o, hs, e, hc, hF s (List.mem_of_getElem? hs), h9⟩
                  · exact .inl ⟨decide_eq_false (by omega), decide_eq_false h9⟩
                have hqq := Hq.out q hqa hqF
                have HqT := Lib.hid hqq.1
                have hqK := hqq.2
                clear hqq
                rcases hcase with ⟨f1, f2⟩ | ⟨s, g, o, hs, rfl, cS, hsz, h9⟩
                · skip
                  have hc6 := row_cap rT8 HL.out.2.2.symm
                  have hc13 := row_cap rF8 rfl
                  obtain ⟨hsA, hqA⟩ := sl_upto A6 (k := q) (L := L) (c := c6) rfl (by have := HL.out.1; omega) hc6
                  obtain ⟨hsB, hqB⟩ := sl_upto A13 (k := q) (L := F.length) (c := c13) rfl hqF hc13
                  have g1 : decide ((q : Int) ≤ (K : Int)) = true := decide_eq_true (by omega)
                  have g2 : decide (q ≤ K) = true := decide_eq_true (by omega)
                  have RS := Lib.hid (fun W (hW : Below wr.heap.size wr W) => rsame_quiet HqT.out (hqA W T (rT8.at_ hW).reads) (hqB W F (rF8.at_ hW).reads) (by rw [List.length_take]; omega))
                  go_wp2
                  refine wp_region_quiet_below (by kernel_rfl) (by kernel_rfl) ?_
                  repeat (first  | go_big_quiet_step (first | with_reducible exact calls_regrown _ (fun W _ => AW.out W) | with_reducible exact calls_regrown _ (fun W hW => RS.out W hW) | fail))
                  refine wpQuiet_nil ?_
                  intro w1 hw1
                  have hBq := below_of_regrown hw1
                  go_wp2
                  go_ret
                  exact ⟨rfl, B8.trans (hBq.mono B8.size)⟩
                · have f1 : decide ((q : Int) < (F.length : Int)) = true := decide_eq_true (by omega)
                  have q1 : (q : Int) < (F.length : Int) := by omega
                  have hz : (⟨s.toArray⟩ : ByteArray).size = s.length := str_size s
                  have hfs := Jr.fl_succ hs
                  have Hfs := Lib.hid hfs
                  have v1 : IntKind.i64.wrap ((C.fl F q : Int) + 8) = ((C.fl F q + 8 : Nat) : Int) := by rw [IntWalk.i64_in _ (by omega)]; omega
                  have v2 : IntKind.i64.wrap (((C.fl F q + 8 : Nat) : Int) + (s.length : Int)) = ((C.fl F q + 8 + s.length : Nat) : Int) := by rw [IntWalk.i64_in _ (by omega)]; omega
                  have v2' : IntKind.i64.wrap ((C.fl F q : Int) + 8 + (s.length : Int)) = ((C.fl F q + 8 + s.length : Nat) : Int) := by rw [IntWalk.i64_in _ (by omega)]; omega
                  have v3 : IntKind.i64.wrap (8 + (s.length : Int)) = ((8 + s.length : Nat) : Int) := by rw [IntWalk.i64_in _ (by omega)]; omega
                  have v4 : IntKind.i64.wrap ((C.fl F q : Int) + ((8 + s.length : Nat) : Int)) = ((C.fl F q + (8 + s.length) : Nat) : Int) := by rw [IntWalk.i64_in _ (by omega)]; omega
                  have v4' : IntKind.i64.wrap ((C.fl F q : Int) + (8 + (s.length : Int))) = ((C.fl F q + (8 + s.length) : Nat) : Int) := by rw [IntWalk.i64_in _ (by omega)]; omega
                  by_cases hgo : C.fl F q + 8 + s.length ≤ a
                  · have u1 : decide (((C.fl F q + 8 + s.length : Nat) : Int) ≤ (a : Int)) = true := decide_eq_true (by omega)
                    have u2 : decide (C.fl F q + 8 + s.length ≤ a) = true := decide_eq_true (by omega)
                    have u3 : decide ((C.fl F q : Int) + 8 + (s.length : Int) ≤ (a : Int)) = true := decide_eq_true (by omega)
                    have w1 : IntKind.i64.wrap ((q : Int) + 1) = ((q + 1 : Nat) : Int) := by rw [IntWalk.i64_in _ (by omega)]; omega
                    clear hfs hs
                    generalize C.fl F q = P at *
                    go_wp2
                    go_roundw
                    case rel => exact ⟨q + 1, by omega, rfl, by rw [Hfs.out]; congr 1; omega, by rw [Hfs.out]; omega, (by first | rfl | trivial)⟩
                    case measure => simp [intOf]; omega
                  · have u1 : decide (((C.fl F q + 8 + s.length : Nat) : Int) ≤ (a : Int)) = false := decide_eq_false (by omega)
                    have u2 : decide (C.fl F q + 8 + s.length ≤ a) = false := decide_eq_false (by omega)
                    have u3 : decide ((C.fl F q : Int) + 8 + (s.length : Int) ≤ (a : Int)) = false := decide_eq_false (by omega)
                    clear hfs hs
                    generalize C.fl F q = P at *
                    have hc6 := row_cap rT8 HL.out.2.2.symm
                    have hc13 := row_cap rF8 rfl
                    obtain ⟨hsA, hqA⟩ := sl_upto A6 (k := q) (L := L) (c := c6) rfl (by have := HL.out.1; omega) hc6
                    obtain ⟨hsB, hqB⟩ := sl_upto (some ⟨g, o, none⟩) (k := q) (L := F.length) (c := c13) rfl hqF hc13
                    have g1 : decide ((q : Int) ≤ (K : Int)) = true := decide_eq_true (by omega)
                    have g2 : decide (q ≤ K) = true := decide_eq_true (by omega)
                    have RS := Lib.hid (fun W (hW : Below wr.heap.size wr W) => rsame_quiet HqT.out (hqA W T (rT8.at_ hW).reads) (hqB W F (rF8.at_ hW).reads) (by rw [List.length_take]; omega))
                    go_wp2
                    refine wp_region_quiet_below (by kernel_rfl) (by kernel_rfl) ?_
                    repeat (first  | go_big_quiet_step (first | with_reducible exact calls_regrown _ (fun W _ => AW.out W) | with_reducible exact calls_regrown _ (fun W hW => RS.out W hW) | fail))
                    refine wpQuiet_nil ?_
                    intro w1 hw1
                    have hBq := below_of_regrown hw1
                    go_wp2
                    go_ret
                    exact ⟨rfl, B8.trans (hBq.mono B8.size)⟩
end Go.Proofs.Ytknkbioalohofaa
