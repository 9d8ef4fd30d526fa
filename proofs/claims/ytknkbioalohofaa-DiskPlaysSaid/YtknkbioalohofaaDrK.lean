/- Lists of texts that are compared; how many bytes a call adds; a contract of does in another form. -/
import Derived.Test.YtknkbioalohofaaDrJ
import Derived.Test.YtknkbioalohofaaWRAll
namespace Go.Proofs.Ytknkbioalohofaa
open Go.RowKit Go.Maps Go.ChangeMaps Go.MapKept Go.WideMaps Go.ChangeShapes Go.WideShapes Go.ChangeAt

set_option maxRecDepth 100000 in
set_option maxHeartbeats 2000000 in
theorem lsame_any (a b : List (List UInt8)) (v1 v2 : Value) (w : World) (h1 : SRead w v1 (a.map strV)) (h2 : SRead w v2 (b.map strV)) (ha : a.length ≤ 4611686018427387904) :
    Calls Try.prog 54 #[v1, v2] w fun e w' => e = .returned (.bool (decide (a = b))) ∧ ∃ n, w' = w.drewN n := by
  obtain ⟨A1, c1, rfl, hc1, h3⟩ := h1
  obtain ⟨A2, c2, rfl, hc2, h4⟩ := h2
  rw [List.length_map] at hc1 hc2
  simp only [List.length_map]
  by_cases hl : a.length = b.length
  · have Hl := Lib.hid hl
    have d1 : ((a.length : Int) != (b.length : Int)) = false := by rw [hl]; simp
    rw [← hl]
    rw [← hl] at d1
    clear hl
    go_enter Try.func54, Try.ntmps54
    go_wp2
    go_loopw [13] (fun i wr => ∃ k : Nat, k ≤ a.length ∧ i = .int .i64 (k : Int) ∧ Hid (a.take k = b.take k) ∧ ∃ n, wr = w.drewN n) (fun i _ => a.length - (intOf i).toNat)
    case atStart => exact ⟨0, Nat.zero_le _, rfl, Lib.hid (by simp), 0, rfl⟩
    case round =>
      obtain ⟨k, hk, rfl, heq, n, rfl⟩ := hrel
      have hbl := Hl.out
      by_cases hlt : k < a.length
      · have hltb : k < b.length := by omega
        have h3' := h3.resolve_left (by intro e; have e2 := congrArg List.length e; rw [List.length_map] at e2; simp at e2; rw [e2] at hlt; simp at hlt)
        have h4' := h4.resolve_left (by intro e; have e2 := congrArg List.length e; rw [List.length_map] at e2; simp at e2; rw [e2] at hltb; simp at hltb)
        obtain ⟨g1, o1, rfl, _, hcell1⟩ := h3'
        obtain ⟨g2, o2, rfl, _, hcell2⟩ := h4'
        have e1 := hcell1 k (strV a[k]) (by simp [hlt])
        have e2 := hcell2 k (strV b[k]) (by simp [hltb])
        have dk : decide ((k : Int) < (a.length : Int)) = true := by simp; omega
        have i0 : (0 : Int) ≤ (k : Int) := by omega
        have i1 : (k : Int) < (a.length : Int) := by omega
        have Htk : Hid (a.take (k + 1) = a.take k ++ [a[k]] ∧ b.take (k + 1) = b.take k ++ [b[k]]) := Lib.hid ⟨List.take_succ_eq_append_getElem hlt, List.take_succ_eq_append_getElem hltb⟩
        unfold strV at e1 e2
        have Hab : Hid (a = b → a[k] = b[k]) := Lib.hid (by rintro rfl; rfl)
        clear hcell1 hcell2 h3 h4 hbl
        generalize a[k] = x at *
        generalize b[k] = y at *
        generalize hN : a.length = N at *
        clear hN
        by_cases he : x = y
        · subst he
          go_wp2
          go_quiet (fail)
          go_wp2
          go_roundw
          case rel => exact ⟨k + 1, by omega, by go_num, Lib.hid (by rw [Htk.out.1, Htk.out.2, heq.out]), by first | exact ⟨_, rfl⟩ | exact ⟨_, World.drewN_drewN _ _ _⟩⟩
          case measure => simp [intOf]; omega
        · have dne := beq_eq_false_iff_ne.2 he
          have hne : ¬ a = b := fun e => he (Hab.out e)
          have Hne := Lib.hid (decide_eq_false hne)
          clear he hne
          go_wp2
          go_quiet (fail)
          go_wp2
          go_ret
          rw [Hne.out]
          exact ⟨rfl, _, World.drewN_drewN _ _ _⟩
      · obtain rfl : k = a.length := by omega
        have hab : a = b := by
          have h5 := heq.out
          rw [List.take_length, hbl, List.take_length] at h5
          exact h5
        have Hab := Lib.hid (decide_eq_true hab)
        clear hab heq hbl h3 h4
        go_wp2
        go_ret
        rw [Hab.out]
        exact ⟨rfl, _, rfl⟩
  · have d1 : ((a.length : Int) != (b.length : Int)) = true := by rw [bne_iff_ne]; omega
    have hne : ¬ a = b := fun e => hl (by rw [e])
    have Hne := Lib.hid (decide_eq_false hne)
    clear hne hl h3 h4
    go_enter Try.func54, Try.ntmps54
    go_wp2
    go_ret
    rw [Hne.out]
    exact ⟨rfl, 0, rfl⟩
theorem lsame_yes {a : List (List UInt8)} {v1 v2 : Value} {w : World} (h1 : SRead w v1 (a.map strV)) (h2 : SRead w v2 (a.map strV)) (ha : a.length ≤ 4611686018427387904) :
    Calls Try.prog 54 #[v1, v2] w fun e w' => e = .returned (.bool true) ∧ ∃ n, w' = w.drewN n := by
  have := lsame_any a a v1 v2 w h1 h2 ha
  rw [decide_eq_true rfl] at this
  exact this
namespace D
theorem step_used (M : Dk) (a : A5) (hn : M.files.Pairwise fun x y => x.name ≠ y.name) : used (step M a).1.files ≤ used M.files + 300 := by
  have h1 : used (append M a.name (a.b.take 300)).1.files ≤ used M.files + 300 := by
    have := append_used (n := a.name) (b := a.b.take 300) hn
    rw [List.length_take] at this
    omega
  unfold step
  split
  · exact h1
  split
  · rw [sync_used]; omega
  split
  · exact Nat.le_trans rename_used (by omega)
  split
  · exact Nat.le_trans remove_used (by omega)
  split
  · show used (arm M a.n).files ≤ _
    rw [arm_files]; omega
  split
  · exact Nat.le_trans (crash_used _) (by omega)
  split
  · rw [spoil_used]; omega
  · exact Nat.le_add_right _ _
end D
theorem store4k {g0 : Nat} {W : World} {a b c d : Value} (D : Blk W g0 #[a, b, c, d] 76) (x y z u : Value) :
    ∃ W', W' = ((((W.setCell ⟨g0, 0, none⟩ x).setCell ⟨g0, 1, none⟩ y).setCell ⟨g0, 2, none⟩ z).setCell ⟨g0, 3, none⟩ u) ∧ Blk W' g0 #[x, y, z, u] 76 ∧ (∀ B X, B ≤ g0 → Below B X W → Below B X W') ∧ (∀ g cs t, Blk W g cs t → g ≠ g0 → Blk W' g cs t) ∧ (∀ o l, FRow W o l → FRow W' o l) ∧ (∀ B k M, DkAt B W k M → DkAt B W' k M) := by
  obtain ⟨b0, o0⟩ := blk4 D x y z u
  exact ⟨_, rfl, b0, fun B X h0 h => o0.below h h0, fun g cs t h hn => h.only o0 hn, fun o l h => RowN.only h D (by decide) o0, fun B k M h => h.only D (by decide) o0⟩
theorem dlist_any {B : Nat} {w : World} {p : Nat} {M : D.Dk} (h : DkAt B w p M) :
    Calls Try.prog 55 #[.pointer (some ⟨p, 0, none⟩)] w fun e w' => ∃ v, e = .returned v ∧ Row1 w' 9 v ((D.list M).map strV) ∧ Below w.heap.size w w' := by
  refine (list_any h).mono ?_
  rintro e w' ⟨v, rfl, h1, -, h2⟩
  exact ⟨v, rfl, h1, h2⟩
/-- Texts, as what lasts while memory is made. -/
def rowS (l : List (List UInt8)) : Value → World → Prop := fun v w => ∃ u, v = u ∧ Row1 w 9 u (l.map strV)
theorem mono_rowS (l : List (List UInt8)) : ∀ v w w', Stp w w' → rowS l v w → rowS l v w' := fun _ _ _ hs ⟨u, h1, h2⟩ => ⟨u, h1, h2.at_ hs⟩
theorem does_to {p : Nat} {w0 w : World} {room fuse : Int} {dead : Bool} {l : List D.Fl} {room1 fuse1 : Int} {dead1 : Bool} {l1 : List D.Fl} {A : Option Addr} {c : Nat} {kind : Int} {name to b : List UInt8} {n : Int} {ks : List Int} {kv : Value}
    (hS : (D.step ⟨room, fuse, dead, l⟩ ⟨kind, name, to, b, n, ks, kv⟩).1 = ⟨room1, fuse1, dead1, l1⟩) (ha : ActOk w0 ⟨kind, name, to, b, n, ks, kv⟩) (hu : D.used l ≤ 100000) (hD : DkAt w0.heap.size w p ⟨room, fuse, dead, l⟩) (hV : FRow w (.slice A l.length c) l) (hbw : Below w0.heap.size w0 w) :
    Calls Try.prog 51 #[.pointer (some ⟨p, 0, none⟩), .agg #[.int .i64 room, .int .i64 fuse, .bool dead, .slice A l.length c], .agg #[.int .i64 kind, .string ⟨name.toArray⟩, .string ⟨to.toArray⟩, .string ⟨b.toArray⟩, .int .i64 n, kv]] w fun e w' =>
      ∃ A' c', e = .returned (.tuple #[.agg #[.int .i64 room1, .int .i64 fuse1, .bool dead1, .slice A' l1.length c'], .bool true]) ∧ DkAt w0.heap.size w' p ⟨room1, fuse1, dead1, l1⟩ ∧ FRow w' (.slice A' l1.length c') l1 ∧ DStp w0.heap.size w w' := by
  have h := does_any ⟨kind, name, to, b, n, ks, kv⟩ (dskV ⟨room, fuse, dead, l⟩ (.slice A l.length c)) hD ⟨A, c, rfl, hV⟩ hu ha (Nat.le_refl _) hbw
  refine h.mono ?_
  rintro e w' ⟨v', rfl, h1, h2, h3⟩
  rw [hS] at h1 h2
  obtain ⟨A', c', rfl, h2⟩ := h2
  exact ⟨A', c', rfl, h1, h2, h3⟩
theorem row_open2 {w : World} {e : TypeId} {v : Value} {xs : List Value} (h : Row1 w e v xs) : ∃ A m c, v = .slice A m c ∧ Row1 w e (.slice A m c) xs := by
  obtain ⟨A, c, rfl, -, -⟩ := h.reads
  exact ⟨A, _, c, rfl, h⟩
theorem size_act5 : (Try.prog.info? 71).map (·.size) = some 6 := by kernel_rfl
end Go.Proofs.Ytknkbioalohofaa
