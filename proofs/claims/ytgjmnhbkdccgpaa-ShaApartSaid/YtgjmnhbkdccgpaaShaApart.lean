/- ShaApart: unlike lists of texts are unlike bytes that are summed. No condition. -/
import Derived.Test.YtgjmnhbkdccgpaaShaAwake
import Derived.Test.YtgjmnhbkdccgpaaWRBytes
import Derived.Test.YtgjmnhbkdccgpaaWSame
import Derived.Test.YtgjmnhbkdccgpaaOpenT
import Derived.Test.YtgjmnhbkdccgpaaRel
namespace Go.Proofs.Ytgjmnhbkdccgpaa
open Go.ChangeShapes Go.WideShapes Go.ChangeAt Go.RowKit

/-- The texts of the first k, cut. -/
def cut100 (ts : List (List UInt8)) (k : Nat) : List (List UInt8) := (ts.take k).map (·.take 100)
theorem cut100_succ (ts : List (List UInt8)) (k : Nat) (h : k < ts.length) : cut100 ts (k + 1) = cut100 ts k ++ [ts[k].take 100] := by
  unfold cut100; rw [List.take_succ_eq_append_getElem h, List.map_append]; rfl
theorem cut100_len (ts : List (List UInt8)) (k : Nat) (h : k ≤ ts.length) : (cut100 ts k).length = k := by unfold cut100; simp; omega
theorem cut100_le (ts : List (List UInt8)) (k : Nat) : ∀ t ∈ cut100 ts k, t.length ≤ 100 := by
  intro t ht
  obtain ⟨x, _, rfl⟩ := List.mem_map.1 ht
  rw [List.length_take]; omega
/-- A list of texts of the program's own. -/
structure Lst (w wr : World) (v : Value) (us : List (List UInt8)) : Prop where
  row : Row1 wr 9 v (us.map strV)
  own : v.ownBlock = none ∨ ∃ k, w.heap.size ≤ k ∧ v.ownBlock = some k
theorem Lst.at_ {w wr w' : World} {v : Value} {us : List (List UInt8)} (h : Lst w wr v us) (hb : Below wr.heap.size wr w') : Lst w w' v us := ⟨h.row.at_ hb, h.own⟩
/-- Two such lists, apart from one another. -/
structure Two (w wr : World) (vx vy : Value) (us vs : List (List UInt8)) : Prop where
  x : Lst w wr vx us
  y : Lst w wr vy vs
  ne : ∀ g, vx.ownBlock = some g → vy.ownBlock ≠ some g
  bel : Below w.heap.size w wr
theorem Two.swap {w wr : World} {vx vy : Value} {us vs : List (List UInt8)} (h : Two w wr vx vy us vs) : Two w wr vy vx vs us := ⟨h.y, h.x, fun g hy hx => h.ne g hx hy, h.bel⟩
theorem Two.appx {w wr w2 : World} {vx vy v2 : Value} {us us2 vs : List (List UInt8)} (h : Two w wr vx vy us vs) (o : Obj) (hrow : Row1 w2 9 v2 (us2.map strV)) (hg : (wr.alloc o).grownBy w2 vx.ownBlock) (hr : v2.ownBlock = vx.ownBlock ∨ ∃ k, (wr.alloc o).heap.size ≤ k ∧ v2.ownBlock = some k) : Two w w2 v2 vy us2 vs := by
  have hs1 : w.heap.size ≤ (wr.alloc o).heap.size := by have := h.bel.size; simp; omega
  refine ⟨⟨hrow, own_later h.x.own hs1 hr⟩, ⟨(h.y.row.alloc o).grown hg (fun g hy hx => h.ne g hx hy), h.y.own⟩, fun g h2 hy => ?_, below_grown_own (h.bel.alloc h.bel.size o) hs1 hg h.x.own⟩
  rcases hr with e | ⟨k, hk, e⟩
  · rw [e] at h2; exact h.ne g h2 hy
  · rw [e] at h2
    injection h2 with h2
    have := h.y.row.lt hy
    simp at hk
    omega
theorem Two.at_ {w wr w' : World} {vx vy : Value} {us vs : List (List UInt8)} (h : Two w wr vx vy us vs) (hb : Below wr.heap.size wr w') : Two w w' vx vy us vs := ⟨h.x.at_ hb, h.y.at_ hb, h.ne, h.bel.trans (hb.mono h.bel.size)⟩
theorem caseOf (k n : Nat) (h : ¬ (k < n ∧ k < 8)) : (decide (k < n) = false ∧ True) ∨ (decide (k < n) = true ∧ decide ((k : Int) < 8) = false) := by
  by_cases hk : k < n
  · exact .inr ⟨by simp; omega, by simp; omega⟩
  · exact .inl ⟨by simp; omega, trivial⟩
theorem u8_eq (p q : UInt8) : ((p.toNat : Int) == (q.toNat : Int)) = (p == q) := by
  rw [Bool.eq_iff_iff, beq_iff_eq, beq_iff_eq, Int.ofNat_inj, UInt8.toNat_inj]
set_option maxRecDepth 100000 in
set_option maxHeartbeats 4000000 in
theorem apart_walk (p q : UInt8) (xs ys : List (List UInt8)) (va vb : Value) (w : World) (has : SRead w va (xs.map strV)) (hbs : SRead w vb (ys.map strV)) :
    Calls Try.prog 6 #[.int .u8 (p.toNat : Int), .int .u8 (q.toNat : Int), va, vb] w fun e w' => e = .returned (.bool true) ∧ Below w.heap.size w w' := by
  obtain ⟨A, cA, rfl, hcA, hA⟩ := has
  obtain ⟨B, cB, rfl, hcB, hB3⟩ := hbs
  rw [List.length_map] at hcA hcB ⊢
  rw [List.length_map]
  have hr1 := (Row1.build w 9 [] #[] 0 rfl rfl (by omega)).alloc (.cells #[] 9)
  have hr2 := Row1.build (w.alloc (.cells #[] 9)) 9 [] #[] 0 rfl rfl (by omega)
  simp only [World.size_alloc] at hr2
  have hB0 := (below_alloc1 w (.cells #[] 9)).alloc (by simp) (.cells #[] 9)
  have h0 : ∀ (s : List UInt8) (w : World), Calls Try.prog 18 #[.string ⟨s.toArray⟩, .int .i64 100] w fun e w' => e = .returned (.string ⟨(s.take 100).toArray⟩) ∧ w = w' := fun s w => lcut_any s 100 w
  have H0 := Lib.hid h0
  clear h0
  go_enter Try.func6, Try.ntmps6
  go_wp2
  have T0 : Two w ((w.alloc (.cells #[] 9)).alloc (.cells #[] 9)) (.slice (some ⟨w.heap.size, 0, none⟩) 0 0) (.slice (some ⟨w.heap.size + 1, 0, none⟩) 0 0) (cut100 xs 0) (cut100 ys 0) :=
    ⟨⟨hr1, .inr ⟨_, Nat.le_refl _, rfl⟩⟩, ⟨hr2, .inr ⟨w.heap.size + 1, by omega, rfl⟩⟩, fun g h1 h2 => by simp [Value.ownBlock] at h1 h2; omega, hB0⟩
  clear hr1 hr2 hB0
  generalize (w.alloc (.cells #[] 9)).alloc (.cells #[] 9) = w0 at *
  generalize hvx0 : Value.slice (some ⟨w.heap.size, 0, none⟩) 0 0 = vx0 at *
  generalize hvy0 : Value.slice (some ⟨w.heap.size + 1, 0, none⟩) 0 0 = vy0 at *
  clear hvx0 hvy0
  go_loopw [9, 11] (fun l i wr => ∃ (k : Nat) (vl : Value), vl = l ∧ k ≤ xs.length ∧ k ≤ 8 ∧ i = .int .i64 (k : Int) ∧ Two w wr vl vy0 (cut100 xs k) (cut100 ys 0)) (fun _ i _ => 8 - (intOf i).toNat)
  case atStart => exact ⟨0, _, rfl, Nat.zero_le _, Nat.zero_le _, rfl, T0⟩
  case round =>
    clear T0
    obtain ⟨k, vx, rfl, hk1, hk2, rfl, hT⟩ := hrel
    by_cases hlt : k < xs.length ∧ k < 8
    · have _tok := trivial
      obtain ⟨hlt1, hlt2⟩ := hlt
      have d1 : decide ((k : Int) < (xs.length : Int)) = true := by simp; omega
      have d2 : decide ((k : Int) < 8) = true := by simp; omega
      obtain ⟨g1, o1, rfl, hg1, hcell1⟩ := hA.resolve_left (by intro e; have e2 := congrArg List.length e; rw [List.length_map] at e2; simp at e2; rw [e2] at hlt1; simp at hlt1)
      have e1 := hcell1 k (strV xs[k]) (by simp [hlt1])
      have e1' := ((hT.bel).cell (p := ⟨g1, o1 + k, none⟩) hg1).trans e1
      have i0 : (0 : Int) ≤ (k : Int) := by omega
      have i1 : (k : Int) < (xs.length : Int) := by omega
      have Hs := Lib.hid (cut100_succ xs k hlt1)
      have hul := cut100_len xs k hk1
      have H0' := Lib.hid (H0.out xs[k])
      unfold strV at e1'
      clear e1 hcell1
      generalize xs[k].take 100 = t at *
      generalize xs[k] = tk at *
      have hl1 : (((cut100 xs k).map strV).length + 1) * 16 ≤ 140737488355328 := by rw [List.length_map, hul]; omega
      have Hem : Hid ((cut100 xs k).map strV ++ [strV t] = (cut100 xs (k + 1)).map strV) := Lib.hid (by rw [Hs.out]; simp)
      clear hul
      go_wp2_with (first | (go_at_call 18; with_reducible refine (H0'.out _).mono ?_; rintro e w1 ⟨rfl, rfl⟩) | (at_builtin; (refine wpList_append_row rfl info_str (.tmp 26) (.tmp 32) 38 rfl Try.underlying38 rfl ((hT.x.row).alloc _) ⟨wr.heap.size, 0, none⟩ 1 1 [strV t] rfl rfl (new_cells _ _ _ rfl _) (str_one [t]) hl1 ?_); intro v1 w2 hrow2 hg2 hr2))
      rw [Hem.out] at hrow2
      have hT2 := hT.appx _ hrow2 hg2 hr2
      go_roundw
      case rel => exact ⟨k + 1, _, rfl, by omega, by omega, by go_num, hT2⟩
      case measure => simp [intOf]; omega
    · have hcase := caseOf k xs.length hlt
      rcases hcase with ⟨d1, -⟩ | ⟨d1, d2⟩
      all_goals
        go_wp2
        clear d1 hlt hA
        have hux := cut100_len xs k hk1
        have hlx := cut100_le xs k
        generalize cut100 xs k = us at *
        clear hk1
        go_loopw [10, 12] (fun l i wr => ∃ (j : Nat) (vl : Value), vl = l ∧ j ≤ ys.length ∧ j ≤ 8 ∧ i = .int .i64 (j : Int) ∧ Two w wr vx vl us (cut100 ys j)) (fun _ i _ => 8 - (intOf i).toNat)
        case atStart => exact ⟨0, _, rfl, Nat.zero_le _, Nat.zero_le _, rfl, hT⟩
        case round =>
          clear hT
          obtain ⟨k, vy, rfl, hk1, hk2, rfl, hT⟩ := hrel
          by_cases hlt : k < ys.length ∧ k < 8
          · have _tok := trivial
            obtain ⟨hlt1, hlt2⟩ := hlt
            have d1 : decide ((k : Int) < (ys.length : Int)) = true := by simp; omega
            have d2 : decide ((k : Int) < 8) = true := by simp; omega
            obtain ⟨g1, o1, rfl, hg1, hcell1⟩ := hB3.resolve_left (by intro e; have e2 := congrArg List.length e; rw [List.length_map] at e2; simp at e2; rw [e2] at hlt1; simp at hlt1)
            have e1 := hcell1 k (strV ys[k]) (by simp [hlt1])
            have e1' := ((hT.bel).cell (p := ⟨g1, o1 + k, none⟩) hg1).trans e1
            have i0 : (0 : Int) ≤ (k : Int) := by omega
            have i1 : (k : Int) < (ys.length : Int) := by omega
            have Hs := Lib.hid (cut100_succ ys k hlt1)
            have hul := cut100_len ys k hk1
            have H0' := Lib.hid (H0.out ys[k])
            unfold strV at e1'
            clear e1 hcell1
            generalize ys[k].take 100 = t at *
            generalize ys[k] = tk at *
            have hl1 : (((cut100 ys k).map strV).length + 1) * 16 ≤ 140737488355328 := by rw [List.length_map, hul]; omega
            have Hem : Hid ((cut100 ys k).map strV ++ [strV t] = (cut100 ys (k + 1)).map strV) := Lib.hid (by rw [Hs.out]; simp)
            clear hul
            go_wp2_with (first | (go_at_call 18; with_reducible refine (H0'.out _).mono ?_; rintro e w1 ⟨rfl, rfl⟩) | (at_builtin; (refine wpList_append_row rfl info_str (.tmp 44) (.tmp 50) 38 rfl Try.underlying38 rfl ((hT.y.row).alloc _) ⟨wr.heap.size, 0, none⟩ 1 1 [strV t] rfl rfl (new_cells _ _ _ rfl _) (str_one [t]) hl1 ?_); intro v1 w2 hrow2 hg2 hr2))
            rw [Hem.out] at hrow2
            have hT2 := (hT.swap.appx _ hrow2 hg2 hr2).swap
            go_roundw
            case rel => exact ⟨k + 1, _, rfl, by omega, by omega, by go_num, hT2⟩
            case measure => simp [intOf]; omega
          · have hcase := caseOf k ys.length hlt
            rcases hcase with ⟨d1, -⟩ | ⟨d1, d2⟩
            all_goals
              have huy := cut100_len ys k hk1
              have hly := cut100_le ys k
              generalize cut100 ys k = vs at *
              have hx32 : ∀ t ∈ us, t.length < 4294967296 := fun t ht => Nat.lt_of_le_of_lt (hlx t ht) (by decide)
              have hy32 : ∀ t ∈ vs, t.length < 4294967296 := fun t ht => Nat.lt_of_le_of_lt (hly t ht) (by decide)
              have hiff := J.joinB_inj (p := p) (q := q) hx32 hy32
              have hjx := J.joins_length_le us 100 hlx
              have hjy := J.joins_length_le vs 100 hly
              have hjx2 : (J.joinB p us).length ≤ 1000 := by
                have e2 : (J.joinB p us).length = (J.joins us).length + 1 := rfl
                rw [hux] at hjx; omega
              have hjy2 : (J.joinB q vs).length ≤ 1000 := by
                have e2 : (J.joinB q vs).length = (J.joins vs).length + 1 := rfl
                rw [huy] at hjy; omega
              have HS := Lib.hid (fun W (h : Below wr.heap.size wr W) => same_any us vs vx vy W (hT.x.row.reads.at_ h) (hT.y.row.reads.at_ h) (by omega))
              have HJx := Lib.hid (fun W (h : Below wr.heap.size wr W) => joined_any p us vx W (hT.x.row.reads.at_ h) (by omega))
              have HJy := Lib.hid (fun W (h : Below wr.heap.size wr W) => joined_any q vs vy W (hT.y.row.reads.at_ h) (by omega))
              have HKx := Lib.hid (fun W (h : Below wr.heap.size wr W) => rbytes_any p us vx W (hT.x.row.reads.at_ h) (by omega))
              have HKy := Lib.hid (fun W (h : Below wr.heap.size wr W) => rbytes_any q vs vy W (hT.y.row.reads.at_ h) (by omega))
              have hpq := u8_eq p q
              have hB := hT.bel
              have b0 := Below.refl wr.heap.size wr
              clear hjx hjy hjx2 hjy2 hux huy hlx hly hx32 hy32 hT hlt hk1
              by_cases hp : p = q
              · by_cases hu : us = vs
                · have hXY : J.joinB p us = J.joinB q vs := hiff.2 ⟨hp, hu⟩
                  clear hpq
                  have hus : (us == vs) = true := by rw [hu, beq_self_eq_true]
                  rw [hus] at HS
                  rw [hXY] at HJx HKx
                  have hs32 := S.sum_length (J.joinB q vs)
                  have E1 : ∀ w, (binOp .neq 25 (.agg (labA (S.sum (J.joinB q vs)))) (.agg (labA (S.sum (J.joinB q vs))))).run Try.prog w = .ok (.bool false) w := fun w => by rw [neq_lab _ _ hs32 hs32, beq_self_eq_true]; rfl
                  have HE1 := Lib.hid E1
                  generalize S.sum (J.joinB q vs) = s1 at *
                  generalize J.joinB q vs = X at *
                  clear hiff hXY hus E1 hs32 hu
                  subst hp
                  go_wp2_with (first | (go_at_call 27; with_reducible refine (HS.out _ b0).mono ?_; rintro e w1 ⟨rfl, n1, rfl⟩; replace b0 := below_drewN b0 n1) | (go_at_call 25; with_reducible refine (HJx.out _ b0).mono ?_; rintro e w1 ⟨rfl, hb⟩; replace b0 := b0.trans (hb.mono b0.size)) | (go_at_call 25; with_reducible refine (HJy.out _ b0).mono ?_; rintro e w1 ⟨rfl, hb⟩; replace b0 := b0.trans (hb.mono b0.size)) | (refine wpList_bin (by rfl) .neq 25 25 (.tmp 64) (.tmp 67) (by rfl) (labA s1) (labA s1) (by rfl) (by rfl) guard_lab (.bool false) (HE1.out) ?_; simp only [Act.put, List.setIfInBounds_toArray, List.set_cons_succ, List.set_cons_zero]) | (go_at_call 19; with_reducible refine (awake_any _).mono ?_; rintro e w1 ⟨rfl, hb⟩; replace b0 := b0.trans (hb.mono b0.size)) | (go_at_call 26; with_reducible refine (HKx.out _ b0).mono ?_; rintro e w1 ⟨rfl, hb⟩; replace b0 := b0.trans (hb.mono b0.size)) | (go_at_call 26; with_reducible refine (HKy.out _ b0).mono ?_; rintro e w1 ⟨rfl, hb⟩; replace b0 := b0.trans (hb.mono b0.size)))
                  go_ret
                  exact ⟨rfl, hB.trans (b0.mono hB.size)⟩
                · have hXY : J.joinB p us ≠ J.joinB q vs := fun e => hu (hiff.1 e).2
                  clear hpq
                  have hus : (us == vs) = false := beq_eq_false_iff_ne.2 hu
                  rw [hus] at HS
                  generalize J.joinB p us = X at *
                  generalize J.joinB q vs = Y at *
                  have hst : (X == Y) = false := beq_eq_false_iff_ne.2 hXY
                  clear hiff hXY hus hu HJx HJy
                  subst hp
                  go_wp2_with (first | (go_at_call 27; with_reducible refine (HS.out _ b0).mono ?_; rintro e w1 ⟨rfl, n1, rfl⟩; replace b0 := below_drewN b0 n1) | (go_at_call 19; with_reducible refine (awake_any _).mono ?_; rintro e w1 ⟨rfl, hb⟩; replace b0 := b0.trans (hb.mono b0.size)) | (go_at_call 26; with_reducible refine (HKx.out _ b0).mono ?_; rintro e w1 ⟨rfl, hb⟩; replace b0 := b0.trans (hb.mono b0.size)) | (go_at_call 26; with_reducible refine (HKy.out _ b0).mono ?_; rintro e w1 ⟨rfl, hb⟩; replace b0 := b0.trans (hb.mono b0.size)))
                  go_ret
                  exact ⟨rfl, hB.trans (b0.mono hB.size)⟩
              · have hXY : J.joinB p us ≠ J.joinB q vs := fun e => hp (hiff.1 e).1
                rw [beq_eq_false_iff_ne.2 hp] at hpq
                generalize J.joinB p us = X at *
                generalize J.joinB q vs = Y at *
                have hst : (X == Y) = false := beq_eq_false_iff_ne.2 hXY
                clear hiff hXY hp HJx HJy HS
                go_wp2_with (first | (go_at_call 19; with_reducible refine (awake_any _).mono ?_; rintro e w1 ⟨rfl, hb⟩; replace b0 := b0.trans (hb.mono b0.size)) | (go_at_call 26; with_reducible refine (HKx.out _ b0).mono ?_; rintro e w1 ⟨rfl, hb⟩; replace b0 := b0.trans (hb.mono b0.size)) | (go_at_call 26; with_reducible refine (HKy.out _ b0).mono ?_; rintro e w1 ⟨rfl, hb⟩; replace b0 := b0.trans (hb.mono b0.size)))
                go_ret
                exact ⟨rfl, hB.trans (b0.mono hB.size)⟩
set_option maxRecDepth 1000000 in
theorem apart_law : LawHolds 6 Try.f6 := by
  intro H enc W base args ds p hval hA
  rw [Try.params6] at hA hval
  obtain ⟨v0, vs0, d0, ds0, p0, q0, hargs, rfl, rfl, k0, r0⟩ := trodAll_cons hA
  obtain ⟨v1, vs1, d1, ds1, p1, q1, rfl, rfl, rfl, k1, r1⟩ := trodAll_cons r0
  obtain ⟨v2, vs2, d2, ds2, p2, q2, rfl, rfl, rfl, k2, r2⟩ := trodAll_cons r1
  obtain ⟨v3, vs3, d3, ds3, p3, q3, rfl, rfl, rfl, k3, r3⟩ := trodAll_cons r2
  obtain ⟨rfl, rfl, rfl⟩ := trodAll_nil r3
  obtain rfl : args = #[v0, v1, v2, v3] := by cases args; simp_all
  obtain ⟨b, rfl⟩ := open_byte (hval 0 5 v0 rfl rfl) k0
  obtain ⟨c, rfl⟩ := open_byte (hval 1 5 v1 rfl rfl) k1
  obtain ⟨ts, hts, _, _⟩ := open_texts (hval 2 38 v2 rfl rfl) k2
  obtain ⟨us, hus, _, _⟩ := open_texts (hval 3 38 v3 rfl rfl) k3
  exact apart_walk b c ts us v2 v3 W hts hus

theorem apart_lifted (os : Os) (started : os.Started) (H : Type) (enc : TypeId × Value → H) :
    ReturnsInHanded {} Try.checked os 6 .any (Rows.shaApartSpec.pre6 enc Try.prog Try.f6 Rows.shaApartRow.domain false) (Rows.shaApartSpec.post enc Try.prog Try.f6 false true false false) :=
  lifted_of started (by kernel_rfl) Try.func6
    (ChangeSpec.witness6 (enc := enc) (C := Try.checked) false ⟨#[], #[.int .u8 0, .int .u8 0, .slice none 0 0, .slice none 0 0], []⟩ 8 (by kernel_rfl) (by kernel_rfl) (by kernel_rfl) (by kernel_rfl))
    rfl (by kernel_rfl) (fun ds h => by rw [Try.params6] at h; match ds, h with | [_, _, _, _], _ => rfl) (by rw [Try.params6]; exact of_decide_eq_true (by kernel_rfl)) apart_law
theorem apart_over : Rows.shaApartRow.holds Try.pinned (OpenSpec.ofChange Rows.shaApartSpec) :=
  OpenClaim.holds_of_wide 6 Try.f6 rfl rfl rfl rfl rfl rfl rfl ⟨rfl, rfl, rfl, rfl, rfl⟩ rfl rfl rfl rfl rfl (by kernel_rfl) Try.func6 (by kernel_rfl)
    (of_decide_eq_true (by kernel_rfl)) (by unfold Func.isWrapper; first | (rw [if_pos (by decide +kernel)]; kernel_rfl) | (rw [if_neg (by decide +kernel)]; exact ⟨rfl, rfl⟩))
    (fun os started H enc _ => apart_lifted os started H enc)
/-- The statement. -/
theorem apart_proved : Rows.ShaApartSaid := apart_over
#print axioms apart_proved
end Go.Proofs.Ytgjmnhbkdccgpaa
