/- The walks of the runes' kinds: Kind, small; the document's Kind, Great. -/
import Derived.Test.YtknkbioalohofaaWInD
namespace Go.Proofs.Ytknkbioalohofaa
open Go.RowKit

theorem buildRead (w : World) (e : TypeId) (V : Int → Value) (l : List Int) (cs : Array Value) (n : Nat) (hc : cs = (l.map V).toArray) (hn : (l.map V).length = n) (hl : n ≤ 4611686018427387904) : SRead (w.alloc (.cells cs e)) (.slice (some ⟨w.heap.size, 0, none⟩) n n) (l.map V) := (Row1.build w e (l.map V) cs n hc hn hl).reads

set_option maxRecDepth 100000 in
set_option maxHeartbeats 1000000 in
theorem kind_any (c : Int) (w : World) :
    Calls Try.prog 89 #[.int .i32 c] w fun e w' => e = .returned (.int .i64 (N.kind c : Int)) ∧ Below w.heap.size w w' := by
  have hA : ∀ (W : World) (b : Nat), W.heap.size = b → Calls Try.prog 100 #[.int .i32 c, .slice (some ⟨b, 0, none⟩) 18 18] (W.alloc (.cells #[.int .i32 97, .int .i32 122, .int .i32 65, .int .i32 90, .int .i32 192, .int .i32 214, .int .i32 216, .int .i32 246, .int .i32 248, .int .i32 383, .int .i32 913, .int .i32 929, .int .i32 931, .int .i32 937, .int .i32 945, .int .i32 969, .int .i32 1040, .int .i32 1103] 21)) fun e w' => e = .returned (.bool (N.inB c N.letterR)) ∧ W.alloc (.cells #[.int .i32 97, .int .i32 122, .int .i32 65, .int .i32 90, .int .i32 192, .int .i32 214, .int .i32 216, .int .i32 246, .int .i32 248, .int .i32 383, .int .i32 913, .int .i32 929, .int .i32 931, .int .i32 937, .int .i32 945, .int .i32 969, .int .i32 1040, .int .i32 1103] 21) = w' := fun W b hb => hb ▸ in_any c N.letterR _ _ (buildRead W 21 runeV N.letterR _ 18 rfl rfl (by omega)) (by decide)
  have hB : ∀ (W : World) (b : Nat), W.heap.size = b → Calls Try.prog 100 #[.int .i32 c, .slice (some ⟨b, 0, none⟩) 2 2] (W.alloc (.cells #[.int .i32 48, .int .i32 57] 21)) fun e w' => e = .returned (.bool (N.inB c N.digitR)) ∧ W.alloc (.cells #[.int .i32 48, .int .i32 57] 21) = w' := fun W b hb => hb ▸ in_any c N.digitR _ _ (buildRead W 21 runeV N.digitR _ 2 rfl rfl (by omega)) (by decide)
  by_cases h1 : N.inB c N.letterR = true
  · rw [h1] at hA
    have Hk := Lib.hid (show N.kind c = 1 by simp [N.kind, h1])
    have HA := Lib.hid hA
    have HB := Lib.hid hB
    clear h1 hA hB
    go_enter Try.func89, Try.ntmps89
    go_wp2_with (go_at_call 100; with_reducible refine (HA.out _ _ (by first | rfl | exact World.size_alloc ..)).mono ?_; rintro e w1 ⟨rfl, rfl⟩)
    go_ret
    rw [Hk.out]
    exact ⟨rfl, below_alloc1 _ _⟩
  · have h1 : N.inB c N.letterR = false := by simpa using h1
    rw [h1] at hA
    by_cases h2 : N.inB c N.digitR = true
    · rw [h2] at hB
      have Hk := Lib.hid (show N.kind c = 2 by simp [N.kind, h1, h2])
      have HA := Lib.hid hA
      have HB := Lib.hid hB
      clear h1 h2 hA hB
      go_enter Try.func89, Try.ntmps89
      go_wp2_with (first | (go_at_call 100; with_reducible refine (HA.out _ _ (by first | rfl | exact World.size_alloc ..)).mono ?_; rintro e w1 ⟨rfl, rfl⟩) | (go_at_call 100; with_reducible refine (HB.out _ _ (by first | rfl | exact World.size_alloc ..)).mono ?_; rintro e w1 ⟨rfl, rfl⟩))
      go_ret
      rw [Hk.out]
      exact ⟨rfl, (below_alloc1 _ _).alloc (by rw [World.size_alloc]; omega) _⟩
    · have h2 : N.inB c N.digitR = false := by simpa using h2
      rw [h2] at hB
      by_cases d46 : (c == 46) = true
      · have _tok := trivial
        have Hk := Lib.hid (show N.kind c = 3 by simp [N.kind, N.joint, h1, h2, d46])
        have HA := Lib.hid hA
        have HB := Lib.hid hB
        clear h1 h2 hA hB
        go_enter Try.func89, Try.ntmps89
        go_wp2_with (first | (go_at_call 100; with_reducible refine (HA.out _ _ (by first | rfl | exact World.size_alloc ..)).mono ?_; rintro e w1 ⟨rfl, rfl⟩) | (go_at_call 100; with_reducible refine (HB.out _ _ (by first | rfl | exact World.size_alloc ..)).mono ?_; rintro e w1 ⟨rfl, rfl⟩))
        go_ret
        rw [Hk.out]
        exact ⟨rfl, (below_alloc1 _ _).alloc (by rw [World.size_alloc]; omega) _⟩
      · have d46 : (c == 46) = false := by simpa using d46
        by_cases d45 : (c == 45) = true
        · have _tok := trivial
          have Hk := Lib.hid (show N.kind c = 3 by simp [N.kind, N.joint, h1, h2, d46, d45])
          have HA := Lib.hid hA
          have HB := Lib.hid hB
          clear h1 h2 hA hB
          go_enter Try.func89, Try.ntmps89
          go_wp2_with (first | (go_at_call 100; with_reducible refine (HA.out _ _ (by first | rfl | exact World.size_alloc ..)).mono ?_; rintro e w1 ⟨rfl, rfl⟩) | (go_at_call 100; with_reducible refine (HB.out _ _ (by first | rfl | exact World.size_alloc ..)).mono ?_; rintro e w1 ⟨rfl, rfl⟩))
          go_ret
          rw [Hk.out]
          exact ⟨rfl, (below_alloc1 _ _).alloc (by rw [World.size_alloc]; omega) _⟩
        · have d45 : (c == 45) = false := by simpa using d45
          by_cases d95 : (c == 95) = true
          · have _tok := trivial
            have Hk := Lib.hid (show N.kind c = 3 by simp [N.kind, N.joint, h1, h2, d46, d45, d95])
            have HA := Lib.hid hA
            have HB := Lib.hid hB
            clear h1 h2 hA hB
            go_enter Try.func89, Try.ntmps89
            go_wp2_with (first | (go_at_call 100; with_reducible refine (HA.out _ _ (by first | rfl | exact World.size_alloc ..)).mono ?_; rintro e w1 ⟨rfl, rfl⟩) | (go_at_call 100; with_reducible refine (HB.out _ _ (by first | rfl | exact World.size_alloc ..)).mono ?_; rintro e w1 ⟨rfl, rfl⟩))
            go_ret
            rw [Hk.out]
            exact ⟨rfl, (below_alloc1 _ _).alloc (by rw [World.size_alloc]; omega) _⟩
          · have d95 : (c == 95) = false := by simpa using d95
            by_cases d64 : (c == 64) = true
            · have _tok := trivial
              have Hk := Lib.hid (show N.kind c = 3 by simp [N.kind, N.joint, h1, h2, d46, d45, d95, d64])
              have HA := Lib.hid hA
              have HB := Lib.hid hB
              clear h1 h2 hA hB
              go_enter Try.func89, Try.ntmps89
              go_wp2_with (first | (go_at_call 100; with_reducible refine (HA.out _ _ (by first | rfl | exact World.size_alloc ..)).mono ?_; rintro e w1 ⟨rfl, rfl⟩) | (go_at_call 100; with_reducible refine (HB.out _ _ (by first | rfl | exact World.size_alloc ..)).mono ?_; rintro e w1 ⟨rfl, rfl⟩))
              go_ret
              rw [Hk.out]
              exact ⟨rfl, (below_alloc1 _ _).alloc (by rw [World.size_alloc]; omega) _⟩
            · have d64 : (c == 64) = false := by simpa using d64
              by_cases d43 : (c == 43) = true
              · have _tok := trivial
                have Hk := Lib.hid (show N.kind c = 3 by simp [N.kind, N.joint, h1, h2, d46, d45, d95, d64, d43])
                have HA := Lib.hid hA
                have HB := Lib.hid hB
                clear h1 h2 hA hB
                go_enter Try.func89, Try.ntmps89
                go_wp2_with (first | (go_at_call 100; with_reducible refine (HA.out _ _ (by first | rfl | exact World.size_alloc ..)).mono ?_; rintro e w1 ⟨rfl, rfl⟩) | (go_at_call 100; with_reducible refine (HB.out _ _ (by first | rfl | exact World.size_alloc ..)).mono ?_; rintro e w1 ⟨rfl, rfl⟩))
                go_ret
                rw [Hk.out]
                exact ⟨rfl, (below_alloc1 _ _).alloc (by rw [World.size_alloc]; omega) _⟩
              · have d43 : (c == 43) = false := by simpa using d43
                have Hk := Lib.hid (show N.kind c = 0 by simp [N.kind, N.joint, h1, h2, d46, d45, d95, d64, d43])
                have HA := Lib.hid hA
                have HB := Lib.hid hB
                clear h1 h2 hA hB
                go_enter Try.func89, Try.ntmps89
                go_wp2_with (first | (go_at_call 100; with_reducible refine (HA.out _ _ (by first | rfl | exact World.size_alloc ..)).mono ?_; rintro e w1 ⟨rfl, rfl⟩) | (go_at_call 100; with_reducible refine (HB.out _ _ (by first | rfl | exact World.size_alloc ..)).mono ?_; rintro e w1 ⟨rfl, rfl⟩))
                go_ret
                rw [Hk.out]
                exact ⟨rfl, (below_alloc1 _ _).alloc (by rw [World.size_alloc]; omega) _⟩
theorem great_le (c : Int) (h : N.great c = true) : 65 ≤ c ∧ c ≤ 1071 := by
  simp [N.great, N.greatR, N.inB] at h
  omega
set_option maxRecDepth 100000 in
set_option maxHeartbeats 1000000 in
theorem small_any (c : Int) (w : World) :
    Calls Try.prog 90 #[.int .i32 c] w fun e w' => e = .returned (.int .i32 (N.small c)) ∧ Below w.heap.size w w' := by
  have hA : ∀ (W : World) (b : Nat), W.heap.size = b → Calls Try.prog 100 #[.int .i32 c, .slice (some ⟨b, 0, none⟩) 12 12] (W.alloc (.cells #[.int .i32 65, .int .i32 90, .int .i32 192, .int .i32 214, .int .i32 216, .int .i32 222, .int .i32 913, .int .i32 929, .int .i32 931, .int .i32 937, .int .i32 1040, .int .i32 1071] 21)) fun e w' => e = .returned (.bool (N.inB c N.greatR)) ∧ W.alloc (.cells #[.int .i32 65, .int .i32 90, .int .i32 192, .int .i32 214, .int .i32 216, .int .i32 222, .int .i32 913, .int .i32 929, .int .i32 931, .int .i32 937, .int .i32 1040, .int .i32 1071] 21) = w' := fun W b hb => hb ▸ in_any c N.greatR _ _ (buildRead W 21 runeV N.greatR _ 12 rfl rfl (by omega)) (by decide)
  rw [show N.inB c N.greatR = N.great c from rfl] at hA
  by_cases h : N.great c = true
  · obtain ⟨g1, g2⟩ := great_le c h
    rw [h] at hA
    have Hs := Lib.hid (show N.small c = c + 32 from by rw [N.small, if_pos h])
    have HA := Lib.hid hA
    clear hA h
    go_enter Try.func90, Try.ntmps90
    go_wp2_with (go_at_call 100; with_reducible refine (HA.out _ _ (by first | rfl | exact World.size_alloc ..)).mono ?_; rintro e w1 ⟨rfl, rfl⟩)
    go_ret
    rw [Hs.out]
    exact ⟨by go_num, below_alloc1 _ _⟩
  · have Hs := Lib.hid (show N.small c = c from by rw [N.small, if_neg h])
    have h : N.great c = false := by simpa using h
    rw [h] at hA
    have HA := Lib.hid hA
    clear hA h
    go_enter Try.func90, Try.ntmps90
    go_wp2_with (go_at_call 100; with_reducible refine (HA.out _ _ (by first | rfl | exact World.size_alloc ..)).mono ?_; rintro e w1 ⟨rfl, rfl⟩)
    go_ret
    rw [Hs.out]
    exact ⟨rfl, below_alloc1 _ _⟩
end Go.Proofs.Ytknkbioalohofaa
