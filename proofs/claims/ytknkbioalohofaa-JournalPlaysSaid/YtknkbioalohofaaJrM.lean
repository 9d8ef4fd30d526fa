/- Texts merged. -/
import Derived.Test.YtknkbioalohofaaJrG
import Derived.Test.YtknkbioalohofaaPureSeg3
import Derived.Test.YtknkbioalohofaaDkL
import Derived.Deep.Slices
import Derived.Deep.Grids
import Derived.Deep.MidRow

/- From JrH. -/
namespace Go.Proofs.Ytknkbioalohofaa
open Go.RowKit

namespace Jr
/-- Segments of these numbers, if they are below N and none is n, are removed, the first one first. -/
def dropK (n : Nat) (N : Int) : List Nat → D.Dk → D.Dk × Nat
  | [], M => (M, 0)
  | k :: r, M => if (k : Int) < N ∧ k ≠ n then (if (D.remove M (name k)).2 = 0 then dropK n N r (D.remove M (name k)).1 else D.remove M (name k)) else dropK n N r M
theorem dropK_skip {n : Nat} {N : Int} {k : Nat} {r : List Nat} {M : D.Dk} (h : ¬ ((k : Int) < N ∧ k ≠ n)) : dropK n N (k :: r) M = dropK n N r M := by unfold dropK; rw [if_neg h]; cases r <;> rfl
theorem dropK_go {n : Nat} {N : Int} {k : Nat} {r : List Nat} {M : D.Dk} (h : (k : Int) < N ∧ k ≠ n) (h2 : (D.remove M (name k)).2 = 0) : dropK n N (k :: r) M = dropK n N r (D.remove M (name k)).1 := by rw [dropK, if_pos h, if_pos h2]
theorem dropK_end {n : Nat} {N : Int} {k : Nat} {r : List Nat} {M : D.Dk} (h : (k : Int) < N ∧ k ≠ n) (h2 : ¬ (D.remove M (name k)).2 = 0) : dropK n N (k :: r) M = D.remove M (name k) := by unfold dropK; rw [if_pos h, if_neg h2]
end Jr
set_option maxRecDepth 100000 in
set_option maxHeartbeats 4000000 in
theorem drop_any {B : Nat} {w : World} {p j n : Nat} {M : D.Dk} (h : DkAt B w p M) (hj : JrAt w j p n) (hd : M.dead = false) (segs : List Jr.Sg) (hf : M.files = Jr.files segs) (hs : Jr.Up segs) (N : Int) :
    Calls Try.prog 62 #[.pointer (some ⟨j, 0, none⟩), .int .i64 N] w fun e w' => e = .returned (.int .i64 ((Jr.dropK n N (segs.map Jr.Sg.k) M).2 : Int)) ∧ DkAt B w' p (Jr.dropK n N (segs.map Jr.Sg.k) M).1 ∧ DStp B w w' := by
  have da := dead_any h
  rw [hd] at da
  have DA := Lib.hid da
  have SG := Lib.hid (segments_any h hd segs hf hs)
  have hlen : segs.length ≤ 4096 := by obtain ⟨mb, Es, h'⟩ := h; have := h'.few; rw [hf, Jr.files_length] at this; exact this
  have hBw := Nat.le_of_lt h.lt
  have c0 := hj.cellv (i := 0) rfl
  obtain ⟨ks, hks⟩ : ∃ ks, ks = segs.map Jr.Sg.k := ⟨_, rfl⟩
  have hkl : ks.length = segs.length := by rw [hks, List.length_map]
  have hkl3 := Lib.hid (show ks.length ≤ 4096 by omega)
  rw [← hks]
  clear da hd hf
  go_enter Try.func62, Try.ntmps62
  go_wp2_with (first | (go_at_call 44; (with_reducible refine DA.out.mono ?_); rintro e w ⟨rfl, rfl⟩) | (go_at_call 88; (with_reducible refine SG.out.mono ?_); rintro e w2 ⟨nv, rfl, hrow, hb2⟩; obtain ⟨A, c, rfl, hrow⟩ := row_open hrow))
  have k2 := h.at_ hb2
  have j2 := hj.at_ hb2
  have S2 := DStp.of hb2 hBw
  clear c0 SG DA hb2 hj h
  have hrow' : Row1 w2 3 (.slice A segs.length c) (ks.map intV) := by rw [hks, List.map_map]; exact hrow
  have hsm : ∀ k ∈ ks, k < 10000000000 := by
    intro k hk
    rw [hks] at hk
    obtain ⟨x, hx, rfl⟩ := List.mem_map.1 hk
    exact hs.lt hx
  rw [← hkl] at hrow' ⊢
  clear hrow hs
  have Hks := Lib.hid hks
  clear hks hkl hlen
  have hkl2 : ks.length ≤ 4096 := hkl3.out
  go_loopw [19] (fun i wr => ∃ (q : Nat) (Mq : D.Dk), q ≤ ks.length ∧ i = .int .i64 (q : Int) ∧ Jr.dropK n N ks M = Jr.dropK n N (ks.drop q) Mq ∧ Row1 wr 3 (.slice A ks.length c) (ks.map intV) ∧ JrAt wr j p n ∧ DkAt B wr p Mq ∧ DStp B w wr) (fun i _ => ks.length - (intOf i).toNat)
  case atStart => exact ⟨0, M, Nat.zero_le _, rfl, by rw [List.drop_zero], hrow', j2, k2, S2⟩
  case round =>
    clear hrow' j2 k2 S2
    obtain ⟨q, Mq, hq, rfl, heq, hrow, hj, hk, hS⟩ := hrel
    have q0 : (0 : Int) ≤ (q : Int) := by omega
    by_cases hm : q < ks.length
    · have d1 : decide ((q : Int) < (ks.length : Int)) = true := decide_eq_true (by omega)
      have q1 : (q : Int) < (ks.length : Int) := by omega
      obtain ⟨k, hkq⟩ : ∃ t, ks[q]? = some t := ⟨_, List.getElem?_eq_getElem hm⟩
      obtain ⟨g, o, rfl, hg, cT⟩ := sread_at hrow.reads hkq
      have hdr : ks.drop q = k :: ks.drop (q + 1) := by
        rw [List.drop_eq_getElem_cons hm]
        rw [List.getElem?_eq_getElem hm] at hkq
        injection hkq with hkq
        rw [hkq]
      rw [hdr] at heq
      have hkn : k < 10000000000 := hsm k (List.mem_of_getElem? hkq)
      have NM := Lib.hid (fun W => name_any k hkn W)
      have c1 := hj.cellv (i := 1) rfl
      have hw1 : IntKind.i64.wrap ((q : Int) + 1) = ((q + 1 : Nat) : Int) := by rw [IntWalk.i64_in _ (by omega)]; omega
      change wr.cell? ⟨g, o + q, none⟩ = some (.int .i64 (k : Int)) at cT
      by_cases hgo : (k : Int) < N ∧ k ≠ n
      · have d2 : decide ((k : Int) < N) = true := decide_eq_true hgo.1
        have d3 : ((k : Int) != (n : Int)) = true := by rw [bne_iff_ne]; have := hgo.2; omega
        have d4 : (k != n) = true := by rw [bne_iff_ne]; exact hgo.2
        have hjd : Blk wr.drew j #[.pointer (some ⟨p, 0, none⟩), .int .i64 (n : Int)] 144 := Blk.drew hj
        have hl14 := Jr.name_length k
        have RM := Lib.hid (fun W (h : DkAt B W p Mq) => remove_any h (Jr.name k) (by rw [hl14]; decide))
        by_cases hz : (D.remove Mq (Jr.name k)).2 = 0
        · rw [Jr.dropK_go hgo hz] at heq
          have Heq := Lib.hid heq
          rw [hz] at RM
          clear heq hdr hz hgo hl14
          generalize (D.remove Mq (Jr.name k)).1 = M2 at *
          generalize Jr.name k = nm at *
          rw [show ((0 : Nat) : Int) = 0 from rfl] at RM
          go_wp2
          apply wp_region_rel_below_tail 6 [[(0, none)], [(34, some 0)], [(35, some 1)], [(36, some 2)], [(6, none)], [(38, some 4)]] [eqv _, eqv _, eqv _, eqv _, eqv _, eqv _] (by kernel_rfl) (by kernel_rfl)
          case hobs =>
            refine ⟨?_, ?_⟩
            · rintro L a1 w1 hT - - ⟨h0, -⟩   -- 0: Op.move t0
              have e0 : a1.tmps.getD 0 undef = _ := h0
              have f0 := getD_form e0
              clear h0
              go_simp; exact left_intro rfl (Stp.refl _) trivial
            refine ⟨?_, ?_⟩
            · rintro L a1 w1 hT - - ⟨h34, -⟩   -- 1: Op.nilCheck t34
              have e34 : a1.tmps.getD 34 undef = _ := h34
              have f34 := getD_form e34
              clear h34
              go_simp; exact left_intro rfl (Stp.refl _) trivial
            refine ⟨?_, ?_⟩
            · rintro L a1 w1 hT - - ⟨h35, -⟩   -- 2: Op.fieldAddr 144 t35 0
              have e35 : a1.tmps.getD 35 undef = _ := h35
              have f35 := getD_form e35
              clear h35
              go_simp; exact left_intro rfl (Stp.refl _) trivial
            refine ⟨?_, ?_⟩
            · rintro L a1 w1 hT - - ⟨h36, -⟩   -- 3: Op.load 58 t36
              have e36 : a1.tmps.getD 36 undef = _ := h36
              have f36 := getD_form e36
              clear h36
              have c0 := (hjd.at_ hT).cellv (i := 0) rfl
              go_simp; exact left_intro rfl (Stp.refl _) trivial
            refine ⟨?_, ?_⟩
            · rintro L a1 w1 hT - - ⟨h6, -⟩   -- 4: Op.move t6
              have e6 : a1.tmps.getD 6 undef = _ := h6
              have f6 := getD_form e6
              clear h6
              go_simp; exact left_intro rfl (Stp.refl _) trivial
            refine ⟨?_, ?_⟩
            · rintro L a1 w1 hT - - ⟨h38, -⟩   -- 5: Op.call { value (Operand.func 61), args := #[t38], argTypes := #[3] }
              have e38 : a1.tmps.getD 38 undef = _ := h38
              have f38 := getD_form e38
              clear h38
              go_simp; go_at_call 61; (with_reducible refine (NM.out _).mono ?_); rintro e w2 ⟨rfl, hb⟩; exact left_intro rfl (Stp.of hb) trivial
            trivial
          case hmono => repeat (first | exact trivial | refine ⟨fun _ _ _ _ h => h, ?_⟩)
          case hend =>
            intro w2 hT
            rintro _ rfl _ rfl _ rfl _ rfl _ rfl _ rfl
            change wpList _ _ _ _ _ _
            simp only [Act.put, List.setIfInBounds_toArray, List.set_cons_succ, List.set_cons_zero, List.drop_succ_cons, List.drop_zero]
            have k2 := hk.at_ hT
            have S2 := hS.trans (DStp.of hT (Nat.le_of_lt hk.lt))
            have hj2 := hj.at_ hT
            have hrow2 := hrow.at_ hT
            go_wp2_with (go_at_call 47; (with_reducible refine (RM.out _ k2).mono ?_); rintro e w3 ⟨rfl, k3, s3⟩)
            go_roundw
            case rel => exact ⟨q + 1, M2, by omega, by rfl, Heq.out, hrow2.dstp s3 (by decide) (by decide), hj2.dstp s3, k3, S2.trans s3⟩
            case measure => simp [intOf]; omega
        · rw [Jr.dropK_end hgo hz] at heq
          have d5 : (((D.remove Mq (Jr.name k)).2 : Int) != 0) = true := by rw [bne_iff_ne]; omega
          have Heq := Lib.hid heq
          clear heq hdr hz hgo hl14
          generalize D.remove Mq (Jr.name k) = M2 at *
          generalize Jr.name k = nm at *
          obtain ⟨M2, e2⟩ := M2
          dsimp only at RM d5 ⊢
          go_wp2
          apply wp_region_rel_below_tail 6 [[(0, none)], [(34, some 0)], [(35, some 1)], [(36, some 2)], [(6, none)], [(38, some 4)]] [eqv _, eqv _, eqv _, eqv _, eqv _, eqv _] (by kernel_rfl) (by kernel_rfl)
          case hobs =>
            refine ⟨?_, ?_⟩
            · rintro L a1 w1 hT - - ⟨h0, -⟩   -- 0: Op.move t0
              have e0 : a1.tmps.getD 0 undef = _ := h0
              have f0 := getD_form e0
              clear h0
              go_simp; exact left_intro rfl (Stp.refl _) trivial
            refine ⟨?_, ?_⟩
            · rintro L a1 w1 hT - - ⟨h34, -⟩   -- 1: Op.nilCheck t34
              have e34 : a1.tmps.getD 34 undef = _ := h34
              have f34 := getD_form e34
              clear h34
              go_simp; exact left_intro rfl (Stp.refl _) trivial
            refine ⟨?_, ?_⟩
            · rintro L a1 w1 hT - - ⟨h35, -⟩   -- 2: Op.fieldAddr 144 t35 0
              have e35 : a1.tmps.getD 35 undef = _ := h35
              have f35 := getD_form e35
              clear h35
              go_simp; exact left_intro rfl (Stp.refl _) trivial
            refine ⟨?_, ?_⟩
            · rintro L a1 w1 hT - - ⟨h36, -⟩   -- 3: Op.load 58 t36
              have e36 : a1.tmps.getD 36 undef = _ := h36
              have f36 := getD_form e36
              clear h36
              have c0 := (hjd.at_ hT).cellv (i := 0) rfl
              go_simp; exact left_intro rfl (Stp.refl _) trivial
            refine ⟨?_, ?_⟩
            · rintro L a1 w1 hT - - ⟨h6, -⟩   -- 4: Op.move t6
              have e6 : a1.tmps.getD 6 undef = _ := h6
              have f6 := getD_form e6
              clear h6
              go_simp; exact left_intro rfl (Stp.refl _) trivial
            refine ⟨?_, ?_⟩
            · rintro L a1 w1 hT - - ⟨h38, -⟩   -- 5: Op.call { value (Operand.func 61), args := #[t38], argTypes := #[3] }
              have e38 : a1.tmps.getD 38 undef = _ := h38
              have f38 := getD_form e38
              clear h38
              go_simp; go_at_call 61; (with_reducible refine (NM.out _).mono ?_); rintro e w2 ⟨rfl, hb⟩; exact left_intro rfl (Stp.of hb) trivial
            trivial
          case hmono => repeat (first | exact trivial | refine ⟨fun _ _ _ _ h => h, ?_⟩)
          case hend =>
            intro w2 hT
            rintro _ rfl _ rfl _ rfl _ rfl _ rfl _ rfl
            change wpList _ _ _ _ _ _
            simp only [Act.put, List.setIfInBounds_toArray, List.set_cons_succ, List.set_cons_zero, List.drop_succ_cons, List.drop_zero]
            have k2 := hk.at_ hT
            have S2 := hS.trans (DStp.of hT (Nat.le_of_lt hk.lt))
            go_wp2_with (go_at_call 47; (with_reducible refine (RM.out _ k2).mono ?_); rintro e w3 ⟨rfl, k3, s3⟩)
            go_ret
            rw [Heq.out]
            exact ⟨rfl, k3, S2.trans s3⟩
      · rw [Jr.dropK_skip hgo] at heq
        have Heq := Lib.hid heq
        have hcase : decide ((k : Int) < N) = false ∨ (decide ((k : Int) < N) = true ∧ ((k : Int) != (n : Int)) = false ∧ (k != n) = false) := by
          by_cases h9 : (k : Int) < N
          · have : k = n := by
              rcases Nat.decEq k n with e | e
              · exact absurd ⟨h9, e⟩ hgo
              · exact e
            exact .inr ⟨decide_eq_true h9, by rw [this]; simp, by rw [this]; simp⟩
          · exact .inl (decide_eq_false h9)
        clear heq hdr hgo
        rcases hcase with d2 | ⟨d2, d3, d4⟩
        · go_wp2
          go_roundw
          case rel => exact ⟨q + 1, Mq, by omega, by rfl, Heq.out, hrow, hj, hk, hS⟩
          case measure => simp [intOf]; omega
        · go_wp2
          go_roundw
          case rel => exact ⟨q + 1, Mq, by omega, by rfl, Heq.out, hrow, hj, hk, hS⟩
          case measure => simp [intOf]; omega
    · obtain rfl : q = ks.length := by omega
      rw [List.drop_length] at heq
      have Heq := Lib.hid heq
      clear heq
      go_wp2
      go_ret
      rw [Heq.out]
      exact ⟨rfl, hk, hS⟩
end Go.Proofs.Ytknkbioalohofaa

/- From JrI. -/
namespace Go.Proofs.Ytknkbioalohofaa
open Go.RowKit

theorem info_rows : Info1 35 (.slice none 0 0) 24 := ⟨by kernel_rfl, rfl, by omega⟩
theorem Row1.one {w : World} {e : TypeId} {v : Value} {xs : List Value} (h : Row1 w e v xs) : v.oneCell' = true := by
  rcases h.2 with ⟨rfl, _⟩ | ⟨g, cap, cur, rfl, _⟩ <;> rfl
/-- A row whose elements are rows of texts. -/
def Grid (w : World) (v : Value) (S : List (List (List UInt8))) : Prop := ∃ us, Row1 w 35 v us ∧ us.length = S.length ∧ ∀ (i : Nat) (u : Value) (l : List (List UInt8)), us[i]? = some u → S[i]? = some l → Row1 w 9 u (l.map strV)
section
variable {w w' : World} {v u : Value} {S : List (List (List UInt8))} {l : List (List UInt8)}
theorem Grid.at_ (h : Grid w v S) (hb : Below w.heap.size w w') : Grid w' v S := by
  obtain ⟨us, h1, h2, h3⟩ := h
  exact ⟨us, h1.at_ hb, h2, fun i u l a b => (h3 i u l a b).at_ hb⟩
theorem Grid.dstp {B : Nat} (h : Grid w v S) (d : DStp B w w') : Grid w' v S := by
  obtain ⟨us, h1, h2, h3⟩ := h
  exact ⟨us, h1.dstp d (by decide) (by decide), h2, fun i u l a b => (h3 i u l a b).dstp d (by decide) (by decide)⟩
theorem Grid.onlyBlk {g : Nat} {cs : Array Value} {t : TypeId} (h : Grid w v S) (hb : Blk w g cs t) (ht : 35 ≠ t ∧ 9 ≠ t) (ho : Only g w w') : Grid w' v S := by
  obtain ⟨us, h1, h2, h3⟩ := h
  exact ⟨us, h1.onlyBlk hb ht.1 ho, h2, fun i u l a b => (h3 i u l a b).onlyBlk hb ht.2 ho⟩
theorem Grid.nil (h : Row1 w 35 v []) : Grid w v [] := ⟨[], h, rfl, fun i u l a _ => by cases a⟩
theorem Grid.one (h : Row1 w 35 v [u]) (hu : Row1 w 9 u (l.map strV)) : Grid w v [l] := ⟨[u], h, rfl, fun i u' l' a b => by
  cases i with
  | zero => injection a with a; injection b with b; subst a b; exact hu
  | succ i => cases a⟩
theorem grid_open (h : Grid w v S) : ∃ A c, v = .slice A S.length c ∧ Grid w (.slice A S.length c) S := by
  obtain ⟨us, h1, h2, h3⟩ := h
  obtain ⟨A, c, rfl, -, -⟩ := h1.reads
  rw [h2] at h1 ⊢
  exact ⟨A, c, rfl, us, h1, h2, h3⟩
theorem grid_at {A : Option Addr} {n c k : Nat} (h : Grid w (.slice A n c) S) (hk : S[k]? = some l) : ∃ g o u, A = some ⟨g, o, none⟩ ∧ g < w.heap.size ∧ w.cell? ⟨g, o + k, none⟩ = some u ∧ Row1 w 9 u (l.map strV) := by
  obtain ⟨us, h1, h2, h3⟩ := h
  have hlt : k < us.length := by rw [h2]; exact (List.getElem?_eq_some_iff.1 hk).1
  obtain ⟨u, hu⟩ : ∃ u, us[k]? = some u := ⟨_, List.getElem?_eq_getElem hlt⟩
  obtain ⟨A', c', heq, hc', hcell⟩ := h1.reads
  injection heq with e1 e2 e3
  subst e1
  rcases hcell with e | ⟨g, o, rfl, hg, hcl⟩
  · rw [e] at hlt; cases hlt
  · exact ⟨g, o, u, rfl, hg, hcl k u hu, h3 k u l hu hk⟩
theorem Grid.push {us : List Value} {v' : Value} (h1 : Row1 w 35 v us) (h2 : us.length = S.length) (h3 : ∀ (i : Nat) (u : Value) (l : List (List UInt8)), us[i]? = some u → S[i]? = some l → Row1 w 9 u (l.map strV)) (hu : Row1 w 9 u (l.map strV)) (hr : Row1 w' 35 v' (us ++ [u])) (hg : w.grownBy w' v.ownBlock) : Grid w' v' (S ++ [l]) := by
  have key : ∀ {x : Value} {m : List (List UInt8)}, Row1 w 9 x (m.map strV) → Row1 w' 9 x (m.map strV) := fun hx => hx.grown hg (fun g a b => (Row1.ne_ h1 hx (by decide)) g b a)
  refine ⟨us ++ [u], hr, by simp [h2], fun i u' l' a b => ?_⟩
  rcases Nat.lt_or_ge i us.length with hi | hi
  · rw [List.getElem?_append_left hi] at a
    rw [List.getElem?_append_left (by omega)] at b
    exact key (h3 i u' l' a b)
  · rw [List.getElem?_append_right hi] at a
    rw [List.getElem?_append_right (by omega)] at b
    have : i - us.length = 0 := by
      rcases Nat.eq_zero_or_pos (i - us.length) with e | e
      · exact e
      · rw [List.getElem?_eq_none (by simp; omega)] at a; cases a
    rw [this] at a
    rw [← h2, this] at b
    injection a with a
    injection b with b
    subst a b
    exact key hu
end
set_option maxRecDepth 100000 in
set_option maxHeartbeats 2000000 in
theorem flat_any {w : World} {v : Value} {S : List (List (List UInt8))} (h : Grid w v S) (hS : S.length ≤ 1000000) (hT : S.flatten.length ≤ 1000000) (f : Nat) (hf : f ≤ 1000000) {z : Int} (hz : (f : Int) = z) :
    Calls Try.prog 63 #[v, .int .i64 z] w fun e w' => ∃ u, e = .returned u ∧ Row1 w' 9 u ((S.drop f).flatten.map strV) ∧ (u.ownBlock = none ∨ ∃ k, w.heap.size ≤ k ∧ u.ownBlock = some k) ∧ Below w.heap.size w w' := by
  obtain ⟨A, c, rfl, h⟩ := grid_open h
  have hmx : max z 0 = z := by omega
  have r0 : Row1 (w.alloc (.cells #[] 9)) 9 (.slice (some ⟨w.heap.size, 0, none⟩) 0 0) [] := Row1.build w _ [] #[] 0 rfl rfl (by omega)
  have b0 := (Below.refl w.heap.size w).alloc (Nat.le_refl _) (.cells #[] 9)
  have Hz := Lib.hid hz
  clear hz
  go_enter Try.func63, Try.ntmps63
  go_wp2
  clear hmx
  go_loopw [5, 6] (fun u i wr => ∃ k : Nat, f ≤ k ∧ (k ≤ S.length ∨ k = f) ∧ i = .int .i64 (k : Int) ∧ Row1 wr 9 u (((S.drop f).take (k - f)).flatten.map strV) ∧ (u.ownBlock = none ∨ ∃ k, w.heap.size ≤ k ∧ u.ownBlock = some k) ∧ Below w.heap.size w wr) (fun _ i _ => S.length - (intOf i).toNat)
  case atStart => exact ⟨f, Nat.le_refl _, .inr rfl, by rw [Hz.out], by rw [Nat.sub_self]; exact r0, .inr ⟨_, Nat.le_refl _, rfl⟩, b0⟩
  case round =>
    clear r0 b0
    obtain ⟨k, hfk, hkS, rfl, hrow, hown, hB⟩ := hrel
    have q0 : (0 : Int) ≤ (k : Int) := by omega
    by_cases hm : k < S.length
    · have d1 : decide ((k : Int) < (S.length : Int)) = true := decide_eq_true (by omega)
      have q1 : (k : Int) < (S.length : Int) := by omega
      obtain ⟨l, hl⟩ : ∃ t, S[k]? = some t := ⟨_, List.getElem?_eq_getElem hm⟩
      obtain ⟨g, o, u, rfl, hg, cT, hu⟩ := grid_at (h.at_ hB) hl
      have hw1 : IntKind.i64.wrap ((k : Int) + 1) = ((k + 1 : Nat) : Int) := by rw [IntWalk.i64_in _ (by omega)]; omega
      have hst : ((S.drop f).take (k - f)).flatten ++ l = ((S.drop f).take (k + 1 - f)).flatten := by
        rw [show k + 1 - f = (k - f) + 1 by omega, List.take_add_one, List.getElem?_drop, show f + (k - f) = k by omega, hl, List.flatten_append]
        simp
      have hle : (((S.drop f).take (k + 1 - f)).flatten).length ≤ 1000000 := by
        have e1 : S.flatten = (S.take f).flatten ++ (((S.drop f).take (k + 1 - f)).flatten ++ ((S.drop f).drop (k + 1 - f)).flatten) := by
          rw [← List.flatten_append, List.take_append_drop, ← List.flatten_append, List.take_append_drop]
        rw [e1, List.length_append, List.length_append] at hT
        omega
      rw [← hst, List.length_append] at hle
      have Hst : Hid (((S.drop f).take (k - f)).flatten.map strV ++ l.map strV = ((S.drop f).take (k + 1 - f)).flatten.map strV) := Lib.hid (by rw [← List.map_append, hst])
      have hlen : (((S.drop f).take (k - f)).flatten.map strV).length + (l.map strV).length ≤ 1000000 := by rw [List.length_map, List.length_map]; exact hle
      clear hst hle hl
      generalize ((S.drop f).take (k - f)).flatten.map strV = rw0 at *
      go_wp2_with (at_builtin; refine wpList_append_rows rfl info_str (.tmp 16) (.tmp 20) 35 rfl Try.underlying35 rfl hrow rfl hu (str_one _) (by omega) ?_; intro v5 w5 hrow5 hg5 hr5)
      rw [Hst.out] at hrow5
      have B5 := below_grown_own hB hB.size hg5 hown
      have hown5 := own_later hown hB.size hr5
      go_roundw
      case rel => exact ⟨k + 1, by omega, .inl (by omega), by rfl, hrow5, hown5, B5⟩
      case measure => simp [intOf]; omega
    · have d1 : decide ((k : Int) < (S.length : Int)) = false := decide_eq_false (by omega)
      have d2 : decide (k < S.length) = false := decide_eq_false (by omega)
      have hst : (S.drop f).take (k - f) = S.drop f := List.take_of_length_le (by rw [List.length_drop]; omega)
      rw [hst] at hrow
      go_wp2
      go_ret
      exact ⟨_, rfl, hrow, hown, hB⟩
/-- Is a list the end of another one? -/
def endsL (a b : List (List UInt8)) : Prop := a.length ≤ b.length ∧ a = b.drop (b.length - a.length)
instance (a b : List (List UInt8)) : Decidable (endsL a b) := inferInstanceAs (Decidable (_ ∧ _))
set_option maxRecDepth 100000 in
set_option maxHeartbeats 2000000 in
theorem ends_any {w : World} {v1 v2 : Value} (a b : List (List UInt8)) (h1 : SRead w v1 (a.map strV)) (h2 : SRead w v2 (b.map strV)) (ha : a.length ≤ 1000000) (hb : b.length ≤ 1000000) :
    Calls Try.prog 64 #[v1, v2] w fun e w' => e = .returned (.bool (decide (endsL a b))) ∧ Below w.heap.size w w' := by
  obtain ⟨A, c, rfl, h1⟩ := sread_open h1
  obtain ⟨A', c', rfl, h2⟩ := sread_open h2
  by_cases hle : a.length ≤ b.length
  · have d1 : decide ((a.length : Int) ≤ (b.length : Int)) = true := decide_eq_true (by omega)
    have d2 : decide (a.length ≤ b.length) = true := decide_eq_true hle
    obtain ⟨K, hK⟩ : ∃ K, K = b.length - a.length := ⟨_, rfl⟩
    have hw1 : IntKind.i64.wrap ((b.length : Int) - (a.length : Int)) = (K : Int) := by rw [IntWalk.i64_in _ (by omega)]; omega
    have hcap : b.length ≤ c' := by
      obtain ⟨A9, c9, heq, hc9, -⟩ := h2
      injection heq with e1 e2 e3
      rw [List.length_map] at hc9
      omega
    obtain ⟨A7, c7, hs7, hq7⟩ := sl_from A' (k := K) (L := b.length) (c := c') (n := a.length) rfl (by omega) (by omega) hcap
    have h3 := hq7 w b h2
    have hres : decide (endsL a b) = decide (a = b.drop K) := by
      rw [hK]
      unfold endsL
      simp [hle]
    rw [hres]
    have RS := Lib.hid (rsame_any a (b.drop K) _ _ w h1 h3 (by omega))
    clear hres hK hq7 h3 h1 h2
    generalize b.drop K = bd at *
    go_enter Try.func64, Try.ntmps64
    go_wp2_with (go_at_call 29; (with_reducible refine RS.out.mono ?_); rintro e w1 ⟨rfl, nq, rfl⟩)
    go_ret
    exact ⟨rfl, below_drewN (Below.refl _ _) nq⟩
  · have d1 : decide ((a.length : Int) ≤ (b.length : Int)) = false := decide_eq_false (by omega)
    have d2 : decide (a.length ≤ b.length) = false := decide_eq_false hle
    have hres : decide (endsL a b) = false := decide_eq_false (fun h => hle h.1)
    rw [hres]
    go_enter Try.func64, Try.ntmps64
    go_wp2
    go_ret
    exact ⟨rfl, Below.refl _ _⟩
end Go.Proofs.Ytknkbioalohofaa

/- From JrJ. -/
namespace Go.Proofs.Ytknkbioalohofaa
open Go.RowKit

namespace Jr
/-- The texts of a number's segment. -/
def txt (M : D.Dk) (i : Nat) : List (List UInt8) := (C.all (D.read M (name i)).1).1
def foundL (M : D.Dk) (now : Nat) : List (List (List UInt8)) := (List.range now).map (txt M) ++ [[]]
theorem foundL_get {M : D.Dk} {now i : Nat} (h : i < now) : (foundL M now)[i]? = some (txt M i) := by
  unfold foundL
  rw [List.getElem?_append_left (by simp [h])]
  simp [h]
theorem foundL_last (M : D.Dk) (now : Nat) : (foundL M now)[now]? = some [] := by
  unfold foundL
  rw [List.getElem?_append_right (by simp)]
  simp
theorem foundL_length (M : D.Dk) (now : Nat) : (foundL M now).length = now + 1 := by simp [foundL]
theorem read_le (M : D.Dk) (n : List UInt8) : (D.read M n).1.length ≤ D.used M.files := by
  unfold D.read
  split
  · exact Nat.zero_le _
  · split
    · exact Nat.zero_le _
    · next f hf =>
      have hm := (D.fnd_mem D.Fl.name hf).1
      show f.b.length ≤ _
      have : ∀ (l : List D.Fl), f ∈ l → f.b.length ≤ D.used l := by
        intro l
        induction l with
        | nil => intro h; cases h
        | cons y l ih =>
          intro h
          rw [D.used_cons]
          rcases List.mem_cons.1 h with e | e
          · subst e; omega
          · have := ih e; omega
      exact this _ hm
theorem read_err {M : D.Dk} {n : List UInt8} (h : (D.read M n).2 ≠ 0) : (D.read M n).1 = [] := by
  unfold D.read at h ⊢
  split
  · rfl
  · next hd =>
    rw [if_neg hd] at h
    split
    · rfl
    · next f hf => rw [hf] at h; exact absurd rfl h
end Jr
set_option maxRecDepth 100000 in
set_option maxHeartbeats 4000000 in
theorem found_any {B : Nat} {w : World} {p : Nat} {M : D.Dk} (h : DkAt B w p M) (hu : D.used M.files ≤ 1000000) (now : Nat) (hn : now ≤ 1000) :
    Calls Try.prog 65 #[.pointer (some ⟨p, 0, none⟩), .int .i64 (now : Int)] w fun e w' => ∃ u, e = .returned u ∧ Grid w' u (Jr.foundL M now) ∧ (u.ownBlock = none ∨ ∃ k, w.heap.size ≤ k ∧ u.ownBlock = some k) ∧ Below w.heap.size w w' := by
  have r0 : Row1 (w.alloc (.cells #[] 35)) 35 (.slice (some ⟨w.heap.size, 0, none⟩) 0 0) [] := Row1.build w _ [] #[] 0 rfl rfl (by omega)
  have b0 := (Below.refl w.heap.size w).alloc (Nat.le_refl _) (.cells #[] 35)
  have hfl := Jr.foundL_length M now
  go_enter Try.func65, Try.ntmps65
  go_wp2
  go_loopw [5, 6] (fun u i wr => ∃ (k : Nat), k ≤ now + 1 ∧ i = .int .i64 (k : Int) ∧ Grid wr u ((Jr.foundL M now).take k) ∧ (u.ownBlock = none ∨ ∃ k, w.heap.size ≤ k ∧ u.ownBlock = some k) ∧ Below w.heap.size w wr) (fun _ i _ => now + 1 - (intOf i).toNat)
  case atStart => exact ⟨0, Nat.zero_le _, rfl, Grid.nil r0, .inr ⟨_, Nat.le_refl _, rfl⟩, b0⟩
  case round =>
    clear r0 b0
    obtain ⟨k, hk, rfl, hgrid, hown, hB⟩ := hrel
    have q0 : (0 : Int) ≤ (k : Int) := by omega
    by_cases hm : k ≤ now
    · have d1 : decide ((k : Int) ≤ (now : Int)) = true := decide_eq_true (by omega)
      have hw1 : IntKind.i64.wrap ((k : Int) + 1) = ((k + 1 : Nat) : Int) := by rw [IntWalk.i64_in _ (by omega)]; omega
      have ba := (Below.refl wr.heap.size wr).alloc (Nat.le_refl _) (.cells #[] 9)
      have rt : Row1 (wr.alloc (.cells #[] 9)) 9 (.slice (some ⟨wr.heap.size, 0, none⟩) 0 0) [] := Row1.build wr _ [] #[] 0 rfl rfl (by omega)
      have hga := hgrid.at_ ba
      have hBa := hB.trans (ba.mono hB.size)
      have hh := h.at_ (hBa.mono (Nat.le_refl _))
      by_cases hlt : k < now
      · have d2 : decide ((k : Int) < (now : Int)) = true := decide_eq_true (by omega)
        have d2' : decide (k < now) = true := decide_eq_true hlt
        have hget := Jr.foundL_get (M := M) hlt
        have Htk : Hid ((Jr.foundL M now).take (k + 1) = (Jr.foundL M now).take k ++ [Jr.txt M k]) := Lib.hid (by rw [List.take_add_one, hget]; rfl)
        have hS : ((Jr.foundL M now).take k).length ≤ 1000 := by rw [List.length_take]; omega
        have NM := Lib.hid (fun W => name_any k (by omega) W)
        have hl14 := Jr.name_length k
        have RD := Lib.hid (fun W (h : DkAt B W p M) => read_any h (Jr.name k) (by omega))
        have hrl := Jr.read_le M (Jr.name k)
        by_cases he : (D.read M (Jr.name k)).2 = 0
        · have AL := Lib.hid (fun W => rall_any (D.read M (Jr.name k)).1 (by omega) W)
          rw [he, show ((0 : Nat) : Int) = 0 from rfl] at RD
          have ht : (C.all (D.read M (Jr.name k)).1).1 = Jr.txt M k := rfl
          rw [ht] at AL
          clear hget he hl14 hrl ht hfl
          generalize D.read M (Jr.name k) = rd at *
          generalize Jr.txt M k = tx at *
          generalize (Jr.foundL M now).take k = S at *
          generalize Jr.name k = nm at *
          obtain ⟨us, g1, g2, g3⟩ := hga
          go_wp2_with (first | (go_at_call 61; (with_reducible refine (NM.out _).mono ?_); rintro e w3 ⟨rfl, b3⟩) | (go_at_call 43; (with_reducible refine (RD.out _ (hh.at_ b3)).mono ?_); rintro e w3 ⟨rfl, rfl⟩) | (go_at_call 28; (with_reducible refine (AL.out _).mono ?_); rintro e w5 ⟨v5, rfl, hrow5, -, b5⟩; obtain ⟨A5, c5, rfl, hrow5⟩ := row_open hrow5; have b35 := b3.trans (b5.mono b3.size)) | (at_builtin; refine wpList_append_row rfl info_rows (.tmp 37) (.tmp 39) 95 rfl Try.underlying95 rfl ((g1.at_ b35).alloc _) ⟨w5.heap.size, 0, none⟩ 1 1 [.slice A5 tx.length c5] rfl rfl (new_cells _ _ _ rfl _) (by simp [hrow5.one]) (by omega) ?_; intro v6 w6 hrow6 hg6 hr6))
          have b6 := b35.alloc b35.size (.cells #[.slice A5 tx.length c5] 35)
          have B6 := hBa.trans (b6.mono hBa.size)
          have B7 := below_grown_own B6 B6.size hg6 hown
          have hown7 := own_later hown B6.size hr6
          have G7 := Grid.push (g1.at_ b6) g2 (fun i u l a b => (g3 i u l a b).at_ b6) (hrow5.alloc _) hrow6 hg6
          rw [← Htk.out] at G7
          go_roundw
          case rel => exact ⟨k + 1, by omega, by rfl, G7, hown7, B7⟩
          case measure => simp [intOf]; omega
        · have de : (((D.read M (Jr.name k)).2 : Int) == 0) = false := by rw [beq_eq_false_iff_ne]; omega
          have ht : Jr.txt M k = [] := by unfold Jr.txt; rw [Jr.read_err he, C.all_none C.opn_nil]
          rw [ht] at Htk
          clear hget he hl14 hrl ht hfl
          generalize D.read M (Jr.name k) = rd at *
          obtain ⟨rs, re⟩ := rd
          dsimp only at RD de
          generalize (Jr.foundL M now).take k = S at *
          generalize Jr.name k = nm at *
          obtain ⟨us, g1, g2, g3⟩ := hga
          go_wp2_with (first | (go_at_call 61; (with_reducible refine (NM.out _).mono ?_); rintro e w3 ⟨rfl, b3⟩) | (go_at_call 43; (with_reducible refine (RD.out _ (hh.at_ b3)).mono ?_); rintro e w3 ⟨rfl, rfl⟩) | (at_builtin; refine wpList_append_row rfl info_rows (.tmp 37) (.tmp 39) 95 rfl Try.underlying95 rfl ((g1.at_ b3).alloc _) ⟨w3.heap.size, 0, none⟩ 1 1 [.slice (some ⟨wr.heap.size, 0, none⟩) 0 0] rfl rfl (new_cells _ _ _ rfl _) (by simp [rt.one]) (by omega) ?_; intro v6 w6 hrow6 hg6 hr6))
          have b6 := b3.alloc b3.size (.cells #[.slice (some ⟨wr.heap.size, 0, none⟩) 0 0] 35)
          have B6 := hBa.trans (b6.mono hBa.size)
          have B7 := below_grown_own B6 B6.size hg6 hown
          have hown7 := own_later hown B6.size hr6
          have G7 := Grid.push (l := []) (g1.at_ b6) g2 (fun i u l a b => (g3 i u l a b).at_ b6) (rt.at_ b6) hrow6 hg6
          rw [← Htk.out] at G7
          go_roundw
          case rel => exact ⟨k + 1, by omega, by rfl, G7, hown7, B7⟩
          case measure => simp [intOf]; omega
      · have d2 : decide ((k : Int) < (now : Int)) = false := decide_eq_false (by omega)
        have d2' : decide (k < now) = false := decide_eq_false hlt
        have hkn : k = now := by omega
        have hget := Jr.foundL_last M now
        rw [← hkn] at hget
        have Htk : Hid ((Jr.foundL M now).take (k + 1) = (Jr.foundL M now).take k ++ [[]]) := Lib.hid (by rw [List.take_add_one, ← hkn, hget]; rfl)
        have hS : ((Jr.foundL M now).take k).length ≤ 1000 := by rw [List.length_take]; omega
        have Hkn := Lib.hid (show k + 1 ≤ now + 1 by omega)
        clear hget hfl hkn
        generalize (Jr.foundL M now).take k = S at *
        obtain ⟨us, g1, g2, g3⟩ := hga
        go_wp2_with (at_builtin; refine wpList_append_row rfl info_rows (.tmp 37) (.tmp 39) 95 rfl Try.underlying95 rfl (g1.alloc _) ⟨wr.heap.size + 1, 0, none⟩ 1 1 [.slice (some ⟨wr.heap.size, 0, none⟩) 0 0] rfl rfl (by have := new_cells (wr.alloc (.cells #[] 9)) [.slice (some ⟨wr.heap.size, 0, none⟩) 0 0] #[.slice (some ⟨wr.heap.size, 0, none⟩) 0 0] rfl 35; rw [World.size_alloc] at this; exact this) (by simp [rt.one]) (by omega) ?_; intro v6 w6 hrow6 hg6 hr6)
        have b6 := (Below.refl _ _).alloc (Nat.le_refl (wr.alloc (.cells #[] 9)).heap.size) (.cells #[.slice (some ⟨wr.heap.size, 0, none⟩) 0 0] 35)
        have B6 := hBa.trans (b6.mono hBa.size)
        have B7 := below_grown_own B6 B6.size hg6 hown
        have hown7 := own_later hown B6.size hr6
        have G7 := Grid.push (l := []) (g1.at_ b6) g2 (fun i u l a b => (g3 i u l a b).at_ b6) (rt.at_ b6) hrow6 hg6
        rw [← Htk.out] at G7
        go_roundw
        case rel => exact ⟨k + 1, Hkn.out, by rfl, G7, hown7, B7⟩
        case measure => simp [intOf]; omega
    · have hkn : k = now + 1 := by omega
      have d1 : decide ((k : Int) ≤ (now : Int)) = false := decide_eq_false (by omega)
      have d1' : decide (k ≤ now) = false := decide_eq_false hm
      have htk : (Jr.foundL M now).take k = Jr.foundL M now := List.take_of_length_le (by omega)
      rw [htk] at hgrid
      clear hkn
      go_wp2
      go_ret
      exact ⟨_, rfl, hgrid, hown, hB⟩
end Go.Proofs.Ytknkbioalohofaa

/- From PureSeg4. -/
namespace Go.Proofs.Ytknkbioalohofaa
namespace Jr
theorem deed_any (M : D.Dk) (h : -1 ≤ M.fuse) : (D.deed M).2 = 0 ∧ (D.deed M).1 = { M with fuse := (D.deed M).1.fuse } ∧ -1 ≤ (D.deed M).1.fuse ∨ D.deed M = ({ M with dead := true }, 10) := by
  unfold D.deed
  by_cases h0 : M.fuse = 0
  · right; rw [if_pos h0]
  · rw [if_neg h0]
    left
    by_cases h1 : 0 < M.fuse
    · rw [if_pos h1]; exact ⟨rfl, rfl, by show -1 ≤ M.fuse - 1; omega⟩
    · rw [if_neg h1]; exact ⟨rfl, rfl, h⟩
/-- The segments below a number, and its own bytes, which are whole frames. -/
structure Cur (L pre : List Sg) (n : Nat) (b0 : List UInt8) : Prop where
  lt : ∀ y ∈ pre, y.k < n
  up : Up L
  eq : (L = pre ∧ b0 = []) ∨ L = pre ++ [⟨n, b0, b0.length⟩]
  whole : Whole b0
theorem Cur.upre {L pre : List Sg} {n : Nat} {b0 : List UInt8} (h : Cur L pre n b0) : Up pre := by
  rcases h.eq with ⟨e, _⟩ | e
  · rw [← e]; exact h.up
  · have := h.up
    rw [e] at this
    exact ⟨(List.pairwise_append.1 this.1).1, fun y hy => this.2 y (List.mem_append.2 (.inl hy))⟩
theorem upd_last {pre : List Sg} {n : Nat} {x : Sg} (hup : Up (pre ++ [x])) (hx : x.k = n) (hlt : ∀ y ∈ pre, y.k < n) (hn : n < 1000000000) (g : D.Fl → D.Fl) (g' : Sg → Sg) (hg : ∀ y, g (fl y) = fl (g' y)) : D.upd D.Fl.name (name n) g (files (pre ++ [x])) = files (pre ++ [g' x]) := by
  rw [upd_files hup hn g g' hg, map_last hx hlt]
theorem add_plays {L pre : List Sg} {n : Nat} {b0 s : List UInt8} (h : Cur L pre n b0) (hn : n < 1000000000) (hl : L.length < 4096) (r f : Int) (hf : -1 ≤ f) :
    (s.length + 8 : Int) + D.used (files L) > r ∧ add ⟨r, f, false, files L⟩ n s = (⟨r, f, false, files L⟩, 9) ∨
    (s.length + 8 : Int) + D.used (files L) ≤ r ∧ ((∃ f', -1 ≤ f' ∧ add ⟨r, f, false, files L⟩ n s = (⟨r, f', false, files (pre ++ [⟨n, b0 ++ C.wrap s, (b0 ++ C.wrap s).length⟩])⟩, 0)) ∨
      ∃ f', add ⟨r, f, false, files L⟩ n s = (⟨r, f', true, files (pre ++ [⟨n, b0 ++ C.wrap s, b0.length⟩])⟩, 10)) := by
  have hwl := C.wrap_length s
  by_cases hfit : (s.length + 8 : Int) + D.used (files L) ≤ r
  · refine .inr ⟨hfit, ?_⟩
    have hup2 : Up (pre ++ [⟨n, b0 ++ C.wrap s, b0.length⟩]) := h.upre.snoc hn h.lt
    have hf3 := find_mem hup2 (x := ⟨n, b0 ++ C.wrap s, b0.length⟩) (by simp)
    have happ : ∀ d : D.Dk × Nat, D.deed ⟨r, f, false, files L⟩ = d → D.append ⟨r, f, false, files L⟩ (name n) (C.wrap s) = ({ d.1 with files := files (pre ++ [⟨n, b0 ++ C.wrap s, b0.length⟩]) }, d.2) := by
      intro d hd
      rcases h.eq with ⟨e1, e2⟩ | e1
      · subst e2
        have hfn : D.fnd D.Fl.name (name n) (files L) = none := find_none h.up hn fun y hy e => by rw [e1] at hy; have := h.lt y hy; omega
        rw [D.append_new (M := ⟨r, f, false, files L⟩) rfl (good_name n) hfn (by show _ ≤ r - (D.used (files L) : Int); omega) (by rw [files_length]; exact hl), hd]
        have := ins_last (l := L) h.up (x := ⟨n, C.wrap s, 0⟩) hn (by rw [e1]; exact h.lt)
        rw [show (⟨name n, C.wrap s, 0⟩ : D.Fl) = fl ⟨n, C.wrap s, 0⟩ from rfl]
        show ({ d.1 with files := D.ins D.Fl.name (fl ⟨n, C.wrap s, 0⟩) (files L) }, d.2) = _
        rw [this, e1]
        rfl
      · have hup1 := h.up
        rw [e1] at hup1
        have hfo : D.fnd D.Fl.name (name n) (files L) = some (fl ⟨n, b0, b0.length⟩) := by rw [e1]; exact find_mem hup1 (x := ⟨n, b0, b0.length⟩) (by simp)
        rw [D.append_old (M := ⟨r, f, false, files L⟩) rfl (good_name n) hfo (by show _ ≤ r - (D.used (files L) : Int); omega), hd]
        have := upd_last hup1 rfl h.lt hn (fun f => { f with b := f.b ++ C.wrap s }) (fun y => { y with b := y.b ++ C.wrap s }) (fun _ => rfl)
        show ({ d.1 with files := D.upd D.Fl.name (name n) (fun f => { f with b := f.b ++ C.wrap s }) (files L) }, d.2) = _
        rw [e1, this]
    rcases deed_any ⟨r, f, false, files L⟩ hf with ⟨d1, d2, d3⟩ | d1
    · have ha := happ _ rfl
      rw [d1, d2] at ha
      generalize (D.deed ⟨r, f, false, files L⟩).1.fuse = f1 at ha d3
      change D.append _ _ _ = (⟨r, f1, false, files (pre ++ [⟨n, b0 ++ C.wrap s, b0.length⟩])⟩, 0) at ha
      unfold add
      rw [ha]
      show ((∃ f', -1 ≤ f' ∧ D.sync ⟨r, f1, false, files (pre ++ [⟨n, b0 ++ C.wrap s, b0.length⟩])⟩ (name n) = _) ∨ ∃ f', D.sync ⟨r, f1, false, files (pre ++ [⟨n, b0 ++ C.wrap s, b0.length⟩])⟩ (name n) = _)
      rcases deed_any ⟨r, f1, false, files (pre ++ [⟨n, b0 ++ C.wrap s, b0.length⟩])⟩ d3 with ⟨g1, g2, g3⟩ | g1
      · left
        refine ⟨_, g3, ?_⟩
        rw [D.sync_ok (M := ⟨r, f1, false, files (pre ++ [(⟨n, b0 ++ C.wrap s, b0.length⟩ : Sg)])⟩) (n := name n) rfl hf3 g1, g2]
        have := upd_last hup2 rfl h.lt hn (fun f => { f with sure := f.b.length }) (fun y => { y with s := y.b.length }) (fun _ => rfl)
        show ((⟨r, _, false, D.upd D.Fl.name (name n) (fun f => { f with sure := f.b.length }) (files (pre ++ [⟨n, b0 ++ C.wrap s, b0.length⟩]))⟩ : D.Dk), 0) = _
        rw [this]
      · right
        refine ⟨f1, ?_⟩
        rw [D.sync_dies (M := ⟨r, f1, false, files (pre ++ [(⟨n, b0 ++ C.wrap s, b0.length⟩ : Sg)])⟩) (n := name n) rfl hf3 (by rw [g1]; show (10 : Nat) ≠ 0; omega), g1]
    · right
      have ha := happ _ d1
      refine ⟨f, ?_⟩
      unfold add
      rw [ha]
      rfl
  · refine .inl ⟨by omega, ?_⟩
    have h1 : D.append ⟨r, f, false, files L⟩ (name n) (C.wrap s) = (⟨r, f, false, files L⟩, 9) := D.append_full rfl (good_name n) (by show r - (D.used (files L) : Int) < _; rw [hwl]; omega)
    unfold add; rw [h1]; rfl
/-! ### Drop -/
theorem dropK_none {n : Nat} {N : Int} : ∀ (ks : List Nat) (M : D.Dk), (∀ k ∈ ks, ¬ ((k : Int) < N ∧ k ≠ n)) → dropK n N ks M = (M, 0)
  | [], M, _ => rfl
  | k :: r, M, h => by rw [dropK_skip (h k (List.mem_cons_self ..))]; exact dropK_none r M fun x hx => h x (List.mem_cons_of_mem _ hx)
theorem drp_head {x : Sg} {l : List Sg} (h : Up (x :: l)) : D.drp D.Fl.name (name x.k) (files (x :: l)) = files l := by
  show List.filter _ (fl x :: files l) = _
  rw [List.filter_cons_of_neg (by simp [fl])]
  have hn : D.fnd D.Fl.name (name x.k) (files l) = none := find_none ⟨(List.pairwise_cons.1 h.1).2, fun z hz => h.2 z (List.mem_cons_of_mem _ hz)⟩ (h.2 x (List.mem_cons_self ..)) fun y hy e => by
    have := (List.pairwise_cons.1 h.1).1 y hy; omega
  exact D.drp_none D.Fl.name hn
theorem dropK_plays {n : Nat} {N : Int} {r : Int} : ∀ (L : List Sg) (f : Int), Up L → (∀ y ∈ L, y.k ≤ n) → -1 ≤ f → ∃ (j : Nat) (f' : Int), (∀ y ∈ L.take j, (y.k : Int) < N ∧ y.k < n) ∧
    (((∀ y ∈ L.drop j, N ≤ (y.k : Int) ∨ y.k = n) ∧ -1 ≤ f' ∧ dropK n N (L.map Sg.k) ⟨r, f, false, files L⟩ = (⟨r, f', false, files (L.drop j)⟩, 0)) ∨
      dropK n N (L.map Sg.k) ⟨r, f, false, files L⟩ = (⟨r, f', true, files (L.drop j)⟩, 10))
  | [], f, _, _, hf => ⟨0, f, by simp, .inl ⟨by simp, hf, rfl⟩⟩
  | x :: l, f, hup, hle, hf => by
    have hul : Up l := ⟨(List.pairwise_cons.1 hup.1).2, fun z hz => hup.2 z (List.mem_cons_of_mem _ hz)⟩
    by_cases hP : (x.k : Int) < N ∧ x.k ≠ n
    · have hfo := find_mem hup (x := x) (List.mem_cons_self ..)
      have hxn := hle x (List.mem_cons_self ..)
      rcases deed_any ⟨r, f, false, files (x :: l)⟩ hf with ⟨g1, g2, g3⟩ | g1
      · have hrm := D.remove_ok (M := ⟨r, f, false, files (x :: l)⟩) (n := name x.k) rfl hfo g1
        rw [g2] at hrm
        generalize (D.deed ⟨r, f, false, files (x :: l)⟩).1.fuse = f1 at hrm g3
        have hrm2 : D.remove ⟨r, f, false, files (x :: l)⟩ (name x.k) = (⟨r, f1, false, files l⟩, 0) := by
          rw [hrm]
          show ((⟨r, f1, false, D.drp D.Fl.name (name x.k) (files (x :: l))⟩ : D.Dk), 0) = _
          rw [drp_head hup]
        obtain ⟨j, f', h1, h2⟩ := dropK_plays (n := n) (N := N) (r := r) l f1 hul (fun y hy => hle y (List.mem_cons_of_mem _ hy)) g3
        refine ⟨j + 1, f', ?_, ?_⟩
        · intro y hy
          rw [List.take_succ_cons] at hy
          rcases List.mem_cons.1 hy with e | e
          · rw [e]; exact ⟨hP.1, by omega⟩
          · exact h1 y e
        · rw [List.map_cons, dropK_go hP (by rw [hrm2]), hrm2]
          exact h2
      · refine ⟨0, f, by simp, .inr ?_⟩
        have hrm := D.remove_dies (M := ⟨r, f, false, files (x :: l)⟩) (n := name x.k) rfl hfo (by rw [g1]; show (10 : Nat) ≠ 0; omega)
        rw [g1] at hrm
        rw [List.map_cons, dropK_end hP (by rw [hrm]; show ¬ (10 : Nat) = 0; omega), hrm]
        rfl
    · have hall : ∀ y ∈ x :: l, N ≤ (y.k : Int) ∨ y.k = n := by
        intro y hy
        have hyn := hle y hy
        rcases List.mem_cons.1 hy with e | e
        · rw [e]; omega
        · have := (List.pairwise_cons.1 hup.1).1 y e
          omega
      refine ⟨0, f, by simp, .inl ⟨hall, hf, ?_⟩⟩
      rw [dropK_none _ _ fun k hk => by
        obtain ⟨y, hy, rfl⟩ := List.mem_map.1 hk
        have := hall y hy
        omega]
      rfl
/-! ### a crash -/
theorem crashF_sure (keeps : List Int) (i : Nat) {f : D.Fl} (h : f.sure = f.b.length) : D.crashF keeps i f = f := by
  have hk : D.kOf keeps i (f.b.length - f.sure + 1) = 0 := by
    have := D.kOf_lt keeps i (f.b.length - f.sure + 1) (by omega)
    omega
  unfold D.crashF
  rw [hk, h, Nat.add_zero, List.take_length]
  cases f
  simp at h
  simp [h]
theorem crashL_sure (keeps : List Int) : ∀ (L : List Sg) (i : Nat) (t : List D.Fl), (∀ y ∈ L, y.s = y.b.length) → D.crashL keeps i (files L ++ t) = files L ++ D.crashL keeps (i + L.length) t
  | [], i, t, _ => rfl
  | x :: l, i, t, h => by
    show D.crashF keeps i (fl x) :: D.crashL keeps (i + 1) (files l ++ t) = fl x :: (files l ++ _)
    rw [crashF_sure keeps i (f := fl x) (h x (List.mem_cons_self ..)), crashL_sure keeps l (i + 1) t fun y hy => h y (List.mem_cons_of_mem _ hy), List.length_cons, show i + 1 + l.length = i + (l.length + 1) by omega]
theorem crash_sureL {keeps : List Int} {L : List Sg} {r f : Int} {d : Bool} (h : ∀ y ∈ L, y.s = y.b.length) : D.crash ⟨r, f, d, files L⟩ keeps = ⟨r, -1, false, files L⟩ := by
  unfold D.crash
  have := crashL_sure keeps L 0 [] h
  rw [List.append_nil] at this
  show (⟨r, -1, false, D.crashL keeps 0 (files L)⟩ : D.Dk) = _
  rw [this]
  show (⟨r, -1, false, files L ++ []⟩ : D.Dk) = _
  rw [List.append_nil]
theorem crashF_last (keeps : List Int) (i : Nat) (nm b0 w : List UInt8) : ∃ k, k ≤ w.length ∧ D.crashF keeps i ⟨nm, b0 ++ w, b0.length⟩ = ⟨nm, b0 ++ w.take k, (b0 ++ w.take k).length⟩ := by
  have hk := D.kOf_lt keeps i ((b0 ++ w).length - b0.length + 1) (by omega)
  have hwl : (b0 ++ w).length = b0.length + w.length := List.length_append
  refine ⟨D.kOf keeps i ((b0 ++ w).length - b0.length + 1), by omega, ?_⟩
  show (⟨nm, (b0 ++ w).take (b0.length + D.kOf keeps i ((b0 ++ w).length - b0.length + 1)), b0.length + D.kOf keeps i ((b0 ++ w).length - b0.length + 1)⟩ : D.Fl) = _
  have hk2 : D.kOf keeps i ((b0 ++ w).length - b0.length + 1) ≤ w.length := by omega
  generalize D.kOf keeps i ((b0 ++ w).length - b0.length + 1) = k at hk2
  have h1 : (b0 ++ w.take k).length = b0.length + k := by rw [List.length_append, List.length_take]; omega
  rw [h1, List.take_length_add_append]
theorem crash_last {keeps : List Int} {pre : List Sg} {n : Nat} {b0 w : List UInt8} {r f : Int} {d : Bool} (h : ∀ y ∈ pre, y.s = y.b.length) :
    ∃ k, k ≤ w.length ∧ D.crash ⟨r, f, d, files (pre ++ [⟨n, b0 ++ w, b0.length⟩])⟩ keeps = ⟨r, -1, false, files (pre ++ [⟨n, b0 ++ w.take k, (b0 ++ w.take k).length⟩])⟩ := by
  obtain ⟨k, hk, hc⟩ := crashF_last keeps (0 + pre.length) (name n) b0 w
  refine ⟨k, hk, ?_⟩
  unfold D.crash
  have e : files (pre ++ [⟨n, b0 ++ w, b0.length⟩]) = files pre ++ [fl ⟨n, b0 ++ w, b0.length⟩] := List.map_append
  have e2 : files (pre ++ [⟨n, b0 ++ w.take k, (b0 ++ w.take k).length⟩]) = files pre ++ [fl ⟨n, b0 ++ w.take k, (b0 ++ w.take k).length⟩] := List.map_append
  show (⟨r, -1, false, D.crashL keeps 0 (files (pre ++ [⟨n, b0 ++ w, b0.length⟩]))⟩ : D.Dk) = _
  rw [e, e2, crashL_sure keeps pre 0 _ h]
  show (⟨r, -1, false, files pre ++ [D.crashF keeps (0 + pre.length) (fl ⟨n, b0 ++ w, b0.length⟩)]⟩ : D.Dk) = _
  rw [show fl ⟨n, b0 ++ w, b0.length⟩ = (⟨name n, b0 ++ w, b0.length⟩ : D.Fl) from rfl, hc]
  rfl
end Jr
end Go.Proofs.Ytknkbioalohofaa

/- From PureSeg5. -/
namespace Go.Proofs.Ytknkbioalohofaa
namespace Jr
/-- The texts of a number's segments in a list. -/
def atL (L : List Sg) (i : Nat) : List (List UInt8) := texts (L.filter fun y => decide (y.k = i))
def fromL (L : List Sg) (f : Nat) : List Sg := L.filter fun y => decide (f ≤ y.k)
structure Pl (r : Nat) (L : List Sg) (n first : Nat) (S : List (List (List UInt8))) : Prop where
  up : Up L
  le : ∀ y ∈ L, y.k ≤ n
  ge : ∀ y ∈ L, first ≤ y.k
  whole : ∀ y ∈ L, y.k = n → Whole y.b
  sure : ∀ y ∈ L, y.s = y.b.length
  used : D.used (files L) ≤ r
  len : S.length = n + 1
  fn : first ≤ n
  at_ : ∀ i, first ≤ i → i ≤ n → S[i]? = some (atL L i)
theorem Up.tail {x : Sg} {l : List Sg} (h : Up (x :: l)) : Up l := ⟨(List.pairwise_cons.1 h.1).2, fun z hz => h.2 z (List.mem_cons_of_mem _ hz)⟩
theorem fromL_step : ∀ (L : List Sg) (f : Nat), Up L → fromL L f = (L.filter fun y => decide (y.k = f)) ++ fromL L (f + 1)
  | [], _, _ => rfl
  | x :: l, f, h => by
    have ih := fromL_step l f h.tail
    have hlt := (List.pairwise_cons.1 h.1).1
    unfold fromL at ih ⊢
    rcases Nat.lt_trichotomy x.k f with e | e | e
    · rw [List.filter_cons_of_neg (by simp; omega), List.filter_cons_of_neg (by simp; omega), List.filter_cons_of_neg (by simp; omega), ih]
    · rw [List.filter_cons_of_pos (by simp; omega), List.filter_cons_of_pos (by simp; omega), List.filter_cons_of_neg (by simp; omega), ih]; rfl
    · have h1 : (l.filter fun y => decide (y.k = f)) = [] := by
        rw [List.filter_eq_nil_iff]
        intro z hz
        have := hlt z hz
        simp; omega
      rw [h1, List.nil_append] at ih
      rw [List.filter_cons_of_pos (by simp; omega), List.filter_cons_of_neg (by simp; omega), List.filter_cons_of_pos (by simp; omega), h1, ih]; rfl
theorem fromL_none {L : List Sg} {f : Nat} (h : ∀ y ∈ L, y.k < f) : fromL L f = [] := by
  unfold fromL
  rw [List.filter_eq_nil_iff]
  intro y hy
  have := h y hy
  simp; omega
theorem fromL_all {L : List Sg} {f : Nat} (h : ∀ y ∈ L, f ≤ y.k) : fromL L f = L := by
  unfold fromL
  rw [List.filter_eq_self]
  intro y hy
  have := h y hy
  simp; omega
variable {r n first : Nat} {L : List Sg} {S : List (List (List UInt8))}
theorem Pl.flat (h : Pl r L n first S) : ∀ (d f : Nat), f + d = n + 1 → first ≤ f → (S.drop f).flatten = texts (fromL L f)
  | 0, f, hd, _ => by
    rw [List.drop_of_length_le (by have := h.len; omega), fromL_none fun y hy => by have := h.le y hy; omega]
    rfl
  | d + 1, f, hd, hf => by
    have hlt : f < S.length := by have := h.len; omega
    have hg := h.at_ f hf (by omega)
    rw [List.getElem?_eq_getElem hlt] at hg
    injection hg with hg
    rw [List.drop_eq_getElem_cons hlt, List.flatten_cons, hg, h.flat d (f + 1) (by omega) (by omega), fromL_step L f h.up, texts_app]
    rfl
theorem Pl.flat_first (h : Pl r L n first S) : (S.drop first).flatten = texts L := by
  rw [h.flat (n + 1 - first) first (by have := h.fn; omega) (Nat.le_refl _), fromL_all h.ge]
theorem ends_app (p q : List (List UInt8)) : endsL q (p ++ q) := by
  refine ⟨by rw [List.length_append]; omega, ?_⟩
  rw [List.length_append, Nat.add_sub_cancel, List.drop_left]
/-- What is found is an end of all. -/
theorem ends_drop (S : List (List (List UInt8))) (f : Nat) (a b : List (List UInt8)) (h : (S.drop f).flatten = a ++ b) : endsL b S.flatten := by
  have e : S.flatten = ((S.take f).flatten ++ a) ++ b := by rw [List.append_assoc, ← h, ← List.flatten_append, List.take_append_drop]
  rw [e]
  exact ends_app _ _
theorem ends_snoc (S : List (List (List UInt8))) (f : Nat) (b : List (List UInt8)) (s : List UInt8) (h : (S.drop f).flatten = b) : endsL (b ++ [s]) (S.flatten ++ [s]) := by
  have e : S.flatten ++ [s] = (S.take f).flatten ++ (b ++ [s]) := by rw [← h, ← List.append_assoc, ← List.flatten_append, List.take_append_drop]
  rw [e]
  exact ends_app _ _
theorem Pl.cur (h : Pl r L n first S) : ∃ pre b0, Cur L pre n b0 ∧ (∀ y ∈ pre, y ∈ L) ∧ D.used (files L) = D.used (files pre) + b0.length ∧ atL L n = (C.all b0).1 ∧ texts L = texts pre ++ (C.all b0).1 := by
  have h0 : (C.all []).1 = [] := by rw [C.all_none C.opn_nil]
  by_cases hnew : ∀ y ∈ L, y.k < n
  · refine ⟨L, [], ⟨hnew, h.up, .inl ⟨rfl, rfl⟩, Whole.nil⟩, fun _ h => h, by simp, ?_, by rw [h0, List.append_nil]⟩
    rw [h0]
    unfold atL
    have : (L.filter fun y => decide (y.k = n)) = [] := by
      rw [List.filter_eq_nil_iff]
      intro y hy
      have := hnew y hy
      simp; omega
    rw [this]; rfl
  · obtain ⟨y, hy⟩ := Classical.not_forall.1 hnew
    obtain ⟨hy, hyn⟩ := Classical.not_imp.1 hy
    rcases List.eq_nil_or_concat L with e | ⟨i, x, e⟩
    · rw [e] at hy; cases hy
    · rw [List.concat_eq_append] at e
      have hp := h.up.1
      rw [e, List.pairwise_append] at hp
      have hx : x.k = n := by
        have hx1 := h.le x (by rw [e]; simp)
        rw [e] at hy
        rcases List.mem_append.1 hy with h1 | h1
        · have := hp.2.2 y h1 x (by simp)
          omega
        · rw [List.mem_singleton.1 h1] at hyn; omega
      have hlt : ∀ y ∈ i, y.k < n := fun y hy => by have := hp.2.2 y hy x (by simp); omega
      have hs := h.sure x (by rw [e]; simp)
      have hxe : x = ⟨n, x.b, x.b.length⟩ := by
        cases x
        simp at hx hs
        simp [hx, hs]
      refine ⟨i, x.b, ⟨hlt, h.up, .inr (by rw [e]; congr 2), h.whole x (by rw [e]; simp) hx⟩, fun z hz => by rw [e]; exact List.mem_append.2 (.inl hz), ?_, ?_, ?_⟩
      · rw [e, used_app]; congr 1
      · unfold atL
        have : (i.filter fun y => decide (y.k = n)) = [] := by
          rw [List.filter_eq_nil_iff]
          intro z hz
          have := hlt z hz
          simp; omega
        rw [e, List.filter_append, this, List.nil_append, List.filter_cons_of_pos (by simp [hx]), List.filter_nil, texts_one]
      · rw [e, texts_app, texts_one]
theorem Pl.added (h : Pl r L n first S) (hn : n < 1000000000) {pre : List Sg} {b0 s : List UInt8} (hc : Cur L pre n b0) (hpre : ∀ y ∈ pre, y ∈ L) (hu : D.used (files L) = D.used (files pre) + b0.length) (ha : atL L n = (C.all b0).1) (hs : s.length ≤ 65536) (hr : s.length + 8 + D.used (files L) ≤ r) :
    Pl r (pre ++ [⟨n, b0 ++ C.wrap s, (b0 ++ C.wrap s).length⟩]) n first (S.set n (atL L n ++ [s])) := by
  have hw := hc.whole.more hs
  have hwl := C.wrap_length s
  refine ⟨hc.upre.snoc hn hc.lt, ?_, ?_, ?_, ?_, ?_, by rw [List.length_set]; exact h.len, h.fn, ?_⟩
  · intro y hy
    rcases List.mem_append.1 hy with e | e
    · exact h.le y (hpre y e)
    · rw [List.mem_singleton.1 e]; exact Nat.le_refl _
  · intro y hy
    rcases List.mem_append.1 hy with e | e
    · exact h.ge y (hpre y e)
    · rw [List.mem_singleton.1 e]; exact h.fn
  · intro y hy hyn
    rcases List.mem_append.1 hy with e | e
    · have := hc.lt y e; omega
    · rw [List.mem_singleton.1 e]; exact hw.1
  · intro y hy
    rcases List.mem_append.1 hy with e | e
    · exact h.sure y (hpre y e)
    · rw [List.mem_singleton.1 e]
  · rw [used_app]
    show _ + ((b0 ++ C.wrap s).length + 0) ≤ _
    rw [List.length_append]; omega
  · intro i h1 h2
    unfold atL
    rw [List.filter_append]
    by_cases e : i = n
    · subst e
      have : (pre.filter fun y => decide (y.k = i)) = [] := by
        rw [List.filter_eq_nil_iff]
        intro z hz
        have := hc.lt z hz
        simp; omega
      rw [List.getElem?_set_self (by have := h.len; omega), this, List.nil_append, List.filter_cons_of_pos (by simp), List.filter_nil, texts_one]
      show some _ = some (C.all (b0 ++ C.wrap s)).1
      rw [hw.2, ← ha]; rfl
    · rw [List.getElem?_set_ne (by omega), h.at_ i h1 h2, List.filter_cons_of_neg (by simp; omega), List.filter_nil, List.append_nil]
      unfold atL
      rcases hc.eq with ⟨e1, _⟩ | e1
      · rw [e1]
      · rw [e1, List.filter_append, List.filter_cons_of_neg (by simp; omega), List.filter_nil, List.append_nil]
theorem Pl.turned (h : Pl r L n first S) : Pl r L (n + 1) first (S ++ [[]]) := by
  refine ⟨h.up, fun y hy => Nat.le_succ_of_le (h.le y hy), h.ge, fun y hy e => by have := h.le y hy; omega, h.sure, h.used, by simp [h.len], Nat.le_succ_of_le h.fn, fun i h1 h2 => ?_⟩
  by_cases e : i ≤ n
  · rw [List.getElem?_append_left (by have := h.len; omega)]
    exact h.at_ i h1 e
  · obtain rfl : i = n + 1 := by omega
    rw [List.getElem?_append_right (by rw [h.len]; exact Nat.le_refl _), h.len, Nat.sub_self]
    have : (L.filter fun y => decide (y.k = n + 1)) = [] := by
      rw [List.filter_eq_nil_iff]
      intro z hz
      have := h.le z hz
      simp; omega
    unfold atL
    rw [this]; rfl
theorem used_drop (L : List Sg) (j : Nat) : D.used (files (L.drop j)) ≤ D.used (files L) := by
  conv => rhs; rw [← List.take_append_drop j L, used_app]
  omega
theorem drop_from {L : List Sg} {j low : Nat} (h1 : ∀ y ∈ L.take j, y.k < low) (h2 : ∀ y ∈ L.drop j, low ≤ y.k) : fromL L low = L.drop j := by
  have e : fromL L low = fromL (L.take j) low ++ fromL (L.drop j) low := by unfold fromL; rw [← List.filter_append, List.take_append_drop]
  rw [e, fromL_none h1, fromL_all h2, List.nil_append]
theorem Pl.dropped (h : Pl r L n first S) {j low : Nat} (hl : first ≤ low) (hln : low ≤ n) (h1 : ∀ y ∈ L.take j, y.k < low) (h2 : ∀ y ∈ L.drop j, low ≤ y.k) : Pl r (L.drop j) n low S := by
  have hm : ∀ y ∈ L.drop j, y ∈ L := fun y hy => List.mem_of_mem_drop hy
  refine ⟨⟨h.up.1.sublist (List.drop_sublist _ _), fun y hy => h.up.2 y (hm y hy)⟩, fun y hy => h.le y (hm y hy), h2, fun y hy => h.whole y (hm y hy), fun y hy => h.sure y (hm y hy), Nat.le_trans (used_drop L j) h.used, h.len, hln, fun i g1 g2 => ?_⟩
  rw [h.at_ i (by omega) g2]
  congr 1
  unfold atL
  conv => lhs; rw [← List.take_append_drop j L, List.filter_append]
  have : ((L.take j).filter fun y => decide (y.k = i)) = [] := by
    rw [List.filter_eq_nil_iff]
    intro z hz
    have := h1 z hz
    simp; omega
  rw [this, List.nil_append]
/-- Opened anew. -/
theorem txt_at {L : List Sg} (r : Nat) (hup : Up L) (i : Nat) (hi : i < 1000000000) : txt (mk r L) i = atL L i := by
  unfold txt atL D.read
  rw [if_neg (by show ¬ (false = true); decide)]
  by_cases h : ∃ x ∈ L, x.k = i
  · obtain ⟨x, hx, rfl⟩ := h
    rw [show (mk r L).files = files L from rfl, find_mem hup hx]
    have : (L.filter fun y => decide (y.k = x.k)) = [x] := by
      clear r hi
      induction L with
      | nil => cases hx
      | cons y l ih =>
        have hlt := (List.pairwise_cons.1 hup.1).1
        rcases List.mem_cons.1 hx with e | e
        · subst e
          have : (l.filter fun y => decide (y.k = x.k)) = [] := by
            rw [List.filter_eq_nil_iff]
            intro z hz
            have := hlt z hz
            simp; omega
          rw [List.filter_cons_of_pos (by simp), this]
        · rw [List.filter_cons_of_neg (by have := hlt x e; simp; omega), ih hup.tail e]
    rw [this, texts_one]
    rfl
  · rw [show (mk r L).files = files L from rfl, find_none hup hi fun y hy e => h ⟨y, hy, e⟩]
    have : (L.filter fun y => decide (y.k = i)) = [] := by
      rw [List.filter_eq_nil_iff]
      intro z hz
      simp
      exact fun e => h ⟨z, hz, e⟩
    rw [this]
    show (C.all []).1 = _
    rw [C.all_none C.opn_nil]; rfl
theorem lt_next : ∀ {L : List Sg}, Up L → ∀ y ∈ L, y.k < next L
  | [x], _, y, hy => by rw [List.mem_singleton.1 hy]; exact Nat.lt_succ_self _
  | x :: z :: l, h, y, hy => by
    have ih := lt_next h.tail
    rcases List.mem_cons.1 hy with e | e
    · rw [e]
      exact Nat.lt_trans ((List.pairwise_cons.1 h.1).1 z (List.mem_cons_self ..)) (ih z (List.mem_cons_self ..))
    · exact ih y e
theorem next_le {n : Nat} : ∀ {L : List Sg}, (∀ y ∈ L, y.k ≤ n) → next L ≤ n + 1
  | [], _ => Nat.zero_le _
  | [x], h => Nat.succ_le_succ (h x (by simp))
  | _ :: z :: l, h => next_le (L := z :: l) fun y hy => h y (List.mem_cons_of_mem _ hy)
theorem Pl.opened {L : List Sg} (hup : Up L) (hs : ∀ y ∈ L, y.s = y.b.length) (hu : D.used (files L) ≤ r) (hn : next L < 1000000000) : Pl r L (next L) 0 (foundL (Jr.mk r L) (next L)) := by
  have hlt := lt_next hup
  refine ⟨hup, fun y hy => Nat.le_of_lt (hlt y hy), fun y _ => Nat.zero_le _, fun y hy e => by have := hlt y hy; omega, hs, hu, foundL_length _ _, Nat.zero_le _, fun i _ hi => ?_⟩
  by_cases e : i < next L
  · rw [foundL_get e, txt_at r hup i (by omega)]
  · obtain rfl : i = next L := by omega
    rw [foundL_last]
    have : (L.filter fun y => decide (y.k = next L)) = [] := by
      rw [List.filter_eq_nil_iff]
      intro z hz
      have := hlt z hz
      simp; omega
    unfold atL
    rw [this]; rfl
/-- A frame of which some is gone. -/
theorem all_part {b0 s : List UInt8} (h : Whole b0) (hs : s.length ≤ 65536) (k : Nat) (hk : k ≤ (C.wrap s).length) : (C.all (b0 ++ (C.wrap s).take k)).1 = (C.all b0).1 ∨ (C.all (b0 ++ (C.wrap s).take k)).1 = (C.all b0).1 ++ [s] := by
  by_cases e : k = (C.wrap s).length
  · right
    rw [e, List.take_length]
    exact (h.more hs).2
  · left
    obtain ⟨ts, rfl, hts⟩ := h
    rw [C.all_frames ts _ hts, all_whole hts]
    have h9 := C.opn_cut s [] hs k (by rw [C.wrap_length] at hk e; omega)
    rw [List.append_nil] at h9
    rw [C.all_none h9, List.append_nil]
end Jr
end Go.Proofs.Ytknkbioalohofaa

/- From OpenI. -/
namespace Go.Proofs.Ytknkbioalohofaa
open Go.ChangeShapes Go.WideShapes Go.ChangeAt Go.RowKit Go.Deep

theorem wf_i64 {n : Int} (h : (Lit.int .i64 n).wf = true) : -9223372036854775808 ≤ n ∧ n < 9223372036854775808 := by
  simp only [Lit.wf, IntKind.min, IntKind.max, IntKind.signed, IntKind.bits, Bool.and_eq_true] at h
  have h0 := h.1
  have h1 := h.2
  simp at h0 h1
  omega
theorem cells_int : Try.prog.cellsOf 3 = 1 := by kernel_rfl
theorem cells_bool : Try.prog.cellsOf 4 = 1 := by kernel_rfl
section
variable {H : Type} {enc : TypeId × Value → H} {W : World} {base : Nat} {sp : Nat → Bool} {held : Bool} {v : Value} {d : DataW H} {p : List MemPlace}
theorem choose_list {α : Type} (len : Nat) (P : Nat → α → Prop) (h : ∀ i, i < len → ∃ a, P i a) : ∃ l : List α, l.length = len ∧ ∀ i a, l[i]? = some a → P i a := by
  induction len with
  | zero => exact ⟨[], rfl, by simp⟩
  | succ n ih =>
    obtain ⟨l, h1, h2⟩ := ih fun i hi => h i (by omega)
    obtain ⟨a, ha⟩ := h n (by omega)
    refine ⟨l ++ [a], by simp [h1], fun i b hb => ?_⟩
    rcases Nat.lt_or_ge i l.length with hi | hi
    · rw [List.getElem?_append_left hi] at hb
      exact h2 i b hb
    · rw [List.getElem?_append_right hi] at hb
      have : i - l.length = 0 := by
        rcases Nat.eq_zero_or_pos (i - l.length) with e | e
        · exact e
        · rw [List.getElem?_eq_none (by simp; omega)] at hb; cases hb
      rw [this] at hb
      injection hb with hb
      rw [← hb, show i = n by omega]
      exact ha
theorem nums_of_trod {fuel : Nat} {cs : List Value} {x : DataW H × List MemPlace} (hf' : DataW.trod enc Try.prog W 0 sp held fuel 39 cs = some x) :
    ∃ (v : Value) (l : List Int), cs = [v] ∧ IntsAt W v l ∧ l.length ≤ 9223372036854775807 ∧ ∀ a ∈ l, -9223372036854775808 ≤ a ∧ a < 9223372036854775808 := by
  rcases open_slice1 Try.underlying39 cells_int hf' with ⟨hcs, hx⟩ | ⟨a, len, cap, m, n, V, D, Pl, hcs, _, hl, hm, hmm, hx, hcell⟩
  · exact ⟨_, [], hcs, intsAt_nil W, by simp, by simp⟩
  · have hlen : len ≤ m := by rw [hmm]; split <;> omega
    obtain ⟨l, hl1, hl2⟩ := choose_list len (fun i x => V i = .int .i64 x ∧ (Lit.int .i64 x).wf = true) fun i hi => by
      obtain ⟨_, ht⟩ := hcell i (by omega)
      obtain ⟨x, hx, _, hw⟩ := DataW.trod_int Try.underlying3 ht
      exact ⟨x, by simpa using hx, hw⟩
    have hmx : cap ≤ 9223372036854775807 := by unfold maxLen at hm; exact hm
    refine ⟨_, l, hcs, ⟨some a, cap, by rw [List.length_map, hl1], by rw [List.length_map]; omega, ?_⟩, by omega, fun x hx => ?_⟩
    · by_cases h0 : len = 0
      · exact .inl (by rw [List.map_eq_nil_iff]; exact List.eq_nil_of_length_eq_zero (by omega))
      · obtain ⟨b, off, spot⟩ := a
        have hspot : spot = none := by simpa [Addr.add] using World.cell?_spot (hcell 0 (by omega)).1
        subst hspot
        have h00 := (hcell 0 (by omega)).1
        refine .inr ⟨b, off, rfl, by have := lt_of_cell h00; simpa [Addr.add] using this, fun j u hu => ?_⟩
        rw [List.getElem?_map, Option.map_eq_some_iff] at hu
        obtain ⟨x, hx, rfl⟩ := hu
        have hj : j < len := by rw [← hl1]; exact (List.getElem?_eq_some_iff.1 hx).1
        have hc := (hcell j (by omega)).1
        rw [Addr.add_mid, (hl2 j x hx).1] at hc
        exact hc
    · obtain ⟨i, hi⟩ := List.getElem?_of_mem hx
      exact wf_i64 (hl2 i x hi).2
set_option maxRecDepth 1000000 in
theorem open_nums (hval : Value.okWide Try.prog W .any base 39 v) (h : DataW.Trod enc Try.prog W 0 sp held 39 v d p) :
    ∃ l : List Int, IntsAt W v l ∧ l.length ≤ 9223372036854775807 ∧ ∀ a ∈ l, -9223372036854775808 ≤ a ∧ a < 9223372036854775808 := by
  obtain ⟨a0, len, cap, rfl⟩ := okWide_slice Try.underlying39 hval
  obtain ⟨fuel, hf⟩ := h
  have hf' : DataW.trod enc Try.prog W 0 sp held fuel 39 [.slice a0 len cap] = some (d, p) := hf
  obtain ⟨v, l, hv, r⟩ := nums_of_trod hf'
  injection hv with hv
  subst hv
  exact ⟨l, r⟩
/-- A slice that reads as these truths. -/
def BoolsAt (w : World) (v : Value) (l : List Bool) : Prop := SRead w v (l.map Value.bool)
set_option maxRecDepth 1000000 in
theorem open_truths (hval : Value.okWide Try.prog W .any base 87 v) (h : DataW.Trod enc Try.prog W 0 sp held 87 v d p) :
    ∃ l : List Bool, BoolsAt W v l ∧ l.length ≤ 9223372036854775807 := by
  obtain ⟨a0, len, cap, rfl⟩ := okWide_slice Try.underlying87 hval
  obtain ⟨fuel, hf⟩ := h
  have hf' : DataW.trod enc Try.prog W 0 sp held fuel 87 [.slice a0 len cap] = some (d, p) := hf
  rcases open_slice1 Try.underlying87 cells_bool hf' with ⟨hcs, hx⟩ | ⟨a, len', cap', m, n, V, D, Pl, hcs, _, hl, hm, hmm, hx, hcell⟩
  · simp at hcs
    obtain ⟨rfl, rfl, rfl⟩ := hcs
    exact ⟨[], ⟨none, 0, rfl, Nat.le_refl _, .inl rfl⟩, by simp⟩
  · simp at hcs
    obtain ⟨rfl, rfl, rfl⟩ := hcs
    have hlen : len ≤ m := by rw [hmm]; split <;> omega
    obtain ⟨l, hl1, hl2⟩ := choose_list len (fun i x => V i = .bool x) fun i hi => by
      obtain ⟨_, ht⟩ := hcell i (by omega)
      obtain ⟨x, hx, _⟩ := DataW.trod_bool Try.underlying4 ht
      exact ⟨x, by simpa using hx⟩
    have hmx : cap ≤ 9223372036854775807 := by unfold maxLen at hm; exact hm
    refine ⟨l, ⟨some a, cap, by rw [List.length_map, hl1], by rw [List.length_map]; omega, ?_⟩, by omega⟩
    by_cases h0 : len = 0
    · exact .inl (by rw [List.map_eq_nil_iff]; exact List.eq_nil_of_length_eq_zero (by omega))
    · obtain ⟨b, off, spot⟩ := a
      have hspot : spot = none := by simpa [Addr.add] using World.cell?_spot (hcell 0 (by omega)).1
      subst hspot
      have h00 := (hcell 0 (by omega)).1
      refine .inr ⟨b, off, rfl, by have := lt_of_cell h00; simpa [Addr.add] using this, fun j u hu => ?_⟩
      rw [List.getElem?_map, Option.map_eq_some_iff] at hu
      obtain ⟨x, hx, rfl⟩ := hu
      have hj : j < len := by rw [← hl1]; exact (List.getElem?_eq_some_iff.1 hx).1
      have hc := (hcell j (by omega)).1
      rw [Addr.add_mid, hl2 j x hx] at hc
      exact hc
end
end Go.Proofs.Ytknkbioalohofaa

/- From OpenAct. -/
namespace Go.Proofs.Ytknkbioalohofaa
open Go.ChangeShapes Go.WideShapes Go.ChangeAt Go.RowKit Go.Deep

namespace D
/-- A call of the disk laws. -/
structure A5 where
  kind : Int
  name : List UInt8
  to : List UInt8
  b : List UInt8
  n : Int
  keeps : List Int
  kv : Value
def A5.cells (a : A5) : List Value := [.int .i64 a.kind, .string ⟨a.name.toArray⟩, .string ⟨a.to.toArray⟩, .string ⟨a.b.toArray⟩, .int .i64 a.n, a.kv]
end D
structure ActOk (W : World) (a : D.A5) : Prop where
  kind : -9223372036854775808 ≤ a.kind ∧ a.kind < 9223372036854775808
  name : a.name.length ≤ 9223372036854775807
  to : a.to.length ≤ 9223372036854775807
  b : a.b.length ≤ 9223372036854775807
  n : -9223372036854775808 ≤ a.n ∧ a.n < 9223372036854775808
  ints : IntsAt W a.kv a.keeps
  wf : ∀ x ∈ a.keeps, -9223372036854775808 ≤ x ∧ x < 9223372036854775808
def ActsAt (w : World) (v : Value) (l : List D.A5) : Prop :=
  ∃ A c, v = .slice A l.length c ∧ l.length ≤ c ∧ (l = [] ∨ ∃ g o, A = some ⟨g, o, none⟩ ∧ g < w.heap.size ∧ ∀ j x, l[j]? = some x → w.rangeAt g (o + j * 6) x.cells) ∧ ∀ x ∈ l, ActOk w x
theorem cells_act : Try.prog.cellsOf 71 = 6 := by kernel_rfl
theorem cells_nums : Try.prog.cellsOf 39 = 1 := by kernel_rfl
section
variable {H : Type} {enc : TypeId × Value → H} {W : World} {base : Nat} {sp : Nat → Bool} {held : Bool} {v : Value} {d : DataW H} {p : List MemPlace}
theorem str_of_trod {fuel : Nat} {cs : List Value} {x : DataW H × List MemPlace} (h : DataW.trod enc Try.prog W 0 sp held fuel 9 cs = some x) : ∃ l : List UInt8, cs = [.string ⟨l.toArray⟩] ∧ l.length ≤ 9223372036854775807 := by
  obtain ⟨s, rfl, _, hs⟩ := DataW.trod_string Try.underlying9 h
  refine ⟨s.data.toList, rfl, ?_⟩
  rw [Array.length_toList]
  unfold maxLen at hs
  exact hs
theorem one_of {cs : List Value} {i : Nat} {u : Value} (h : (cs.drop i).take 1 = [u]) : cs[i]? = some u := by
  have := congrArg (·[0]?) h
  simpa using this
set_option maxRecDepth 100000 in
theorem act_of_trod {fuel : Nat} {cs : List Value} {x : DataW H × List MemPlace} (hf : DataW.trod enc Try.prog W 0 sp held fuel 71 cs = some x) : ∃ a : D.A5, cs = a.cells ∧ ActOk W a := by
  obtain ⟨xs, n, _, _, hlen, hxs, hfs⟩ := DataW.trod_struct Try.underlying71 hf
  rw [cells_act] at hlen
  have hx : xs.length = 6 := hxs
  obtain ⟨y0, y1, y2, y3, y4, y5, rfl⟩ : ∃ y0 y1 y2 y3 y4 y5, xs = [y0, y1, y2, y3, y4, y5] := by
    match xs, hx with
    | [y0, y1, y2, y3, y4, y5], _ => exact ⟨y0, y1, y2, y3, y4, y5, rfl⟩
  have f0 : DataW.trod enc Try.prog W 0 sp held n 3 ((cs.drop 0).take (Try.prog.cellsOf 3)) = some y0 := hfs 0 _ rfl
  have f1 : DataW.trod enc Try.prog W 0 sp held n 9 ((cs.drop 1).take (Try.prog.cellsOf 9)) = some y1 := hfs 1 _ rfl
  have f2 : DataW.trod enc Try.prog W 0 sp held n 9 ((cs.drop 2).take (Try.prog.cellsOf 9)) = some y2 := hfs 2 _ rfl
  have f3 : DataW.trod enc Try.prog W 0 sp held n 9 ((cs.drop 3).take (Try.prog.cellsOf 9)) = some y3 := hfs 3 _ rfl
  have f4 : DataW.trod enc Try.prog W 0 sp held n 3 ((cs.drop 4).take (Try.prog.cellsOf 3)) = some y4 := hfs 4 _ rfl
  have f5 : DataW.trod enc Try.prog W 0 sp held n 39 ((cs.drop 5).take (Try.prog.cellsOf 39)) = some y5 := hfs 5 _ rfl
  rw [cells_int] at f0 f4
  rw [cells_str] at f1 f2 f3
  rw [cells_nums] at f5
  obtain ⟨kind, e0, _, w0⟩ := DataW.trod_int Try.underlying3 f0
  obtain ⟨name, e1, w1⟩ := str_of_trod f1
  obtain ⟨to, e2, w2⟩ := str_of_trod f2
  obtain ⟨b, e3, w3⟩ := str_of_trod f3
  obtain ⟨m, e4, _, w4⟩ := DataW.trod_int Try.underlying3 f4
  obtain ⟨kv, l, e5, w5, _, w6⟩ := nums_of_trod f5
  refine ⟨⟨kind, name, to, b, m, l, kv⟩, ?_, ⟨wf_i64 w0, w1, w2, w3, wf_i64 w4, w5, w6⟩⟩
  replace e0 := one_of e0
  replace e1 := one_of e1
  replace e2 := one_of e2
  replace e3 := one_of e3
  replace e4 := one_of e4
  replace e5 := one_of e5
  match cs, hlen with
  | [c0, c1, c2, c3, c4, c5], _ =>
    simp at e0 e1 e2 e3 e4 e5
    subst e0 e1 e2 e3 e4 e5
    rfl
set_option maxRecDepth 1000000 in
theorem open_acts (hval : Value.okWide Try.prog W .any base 69 v) (h : DataW.Trod enc Try.prog W 0 sp held 69 v d p) : ∃ l : List D.A5, ActsAt W v l := by
  obtain ⟨a0, len, cap, rfl⟩ := okWide_slice Try.underlying69 hval
  obtain ⟨fuel, hf⟩ := h
  have hf' : DataW.trod enc Try.prog W 0 sp held fuel 69 [.slice a0 len cap] = some (d, p) := hf
  rcases open_slice Try.underlying69 hf' with ⟨hcs, hx⟩ | ⟨a, len', cap', m, n, Dd, Pl, hcs, _, hl, hm, hmm, hx, hcell⟩
  · simp at hcs
    obtain ⟨rfl, rfl, rfl⟩ := hcs
    exact ⟨[], none, 0, rfl, Nat.le_refl _, .inl rfl, by simp⟩
  · simp at hcs
    obtain ⟨rfl, rfl, rfl⟩ := hcs
    rw [cells_act] at hcell
    have hlen : len ≤ m := by rw [hmm]; split <;> omega
    obtain ⟨l, hl1, hl2⟩ := choose_list len (fun i x => W.cells? 0 (a.add (i * 6)) 6 = some x.cells ∧ ActOk W x) fun i hi => by
      obtain ⟨cs', hc, ht⟩ := hcell i (by omega)
      obtain ⟨x, rfl, hx⟩ := act_of_trod ht
      exact ⟨x, hc, hx⟩
    refine ⟨l, some a, cap, by rw [hl1], by omega, ?_, fun x hx => ?_⟩
    · by_cases h0 : len = 0
      · exact .inl (List.eq_nil_of_length_eq_zero (by omega))
      · obtain ⟨b, off, spot⟩ := a
        have hall := fun j x hj => World.cells?_some (hl2 j x hj).1
        have hlx : ∀ (x : D.A5), x.cells.length = 6 := fun _ => rfl
        obtain ⟨x0, hx0⟩ : ∃ x0, l[0]? = some x0 := ⟨_, List.getElem?_eq_getElem (by omega)⟩
        have h00 : W.cell? (((⟨b, off, spot⟩ : Addr).add (0 * 6)).add 0) = some (.int .i64 x0.kind) := (hall 0 x0 hx0).2.2 0 (by omega)
        have hspot : spot = none := by simpa [Addr.add] using World.cell?_spot h00
        subst hspot
        refine .inr ⟨b, off, rfl, by have := lt_of_cell h00; simpa [Addr.add] using this, fun j x hj i u hu => ?_⟩
        have hi : i < 6 := by rw [← hlx x]; exact (List.getElem?_eq_some_iff.1 hu).1
        have hc := (hall j x hj).2.2 i hi
        rw [Addr.add_mid, Addr.add_mid, hu] at hc
        exact hc
    · obtain ⟨i, hi⟩ := List.getElem?_of_mem hx
      exact (hl2 i x hi).2
end
end Go.Proofs.Ytknkbioalohofaa

/- From OpenAct7. -/
namespace Go.Proofs.Ytknkbioalohofaa
open Go.ChangeShapes Go.WideShapes Go.ChangeAt Go.RowKit Go.Deep

namespace Jr
/-- A call of the journal's law. -/
structure A7 where
  kind : Int
  n : Int
  arm : Int
  s : List UInt8
  keeps : List Int
  kv : Value
def A7.cells (a : A7) : List Value := [.int .i64 a.kind, .int .i64 a.n, .int .i64 a.arm, .string ⟨a.s.toArray⟩, a.kv]
end Jr
structure ActOk7 (W : World) (a : Jr.A7) : Prop where
  kind : -9223372036854775808 ≤ a.kind ∧ a.kind < 9223372036854775808
  n : -9223372036854775808 ≤ a.n ∧ a.n < 9223372036854775808
  arm : -9223372036854775808 ≤ a.arm ∧ a.arm < 9223372036854775808
  s : a.s.length ≤ 9223372036854775807
  ints : IntsAt W a.kv a.keeps
  wf : ∀ x ∈ a.keeps, -9223372036854775808 ≤ x ∧ x < 9223372036854775808
  kl : a.keeps.length ≤ 9223372036854775807
def ActsAt7 (w : World) (v : Value) (l : List Jr.A7) : Prop :=
  ∃ A c, v = .slice A l.length c ∧ l.length ≤ c ∧ (l = [] ∨ ∃ g o, A = some ⟨g, o, none⟩ ∧ g < w.heap.size ∧ ∀ j x, l[j]? = some x → w.rangeAt g (o + j * 5) x.cells) ∧ ∀ x ∈ l, ActOk7 w x
theorem cells_act7 : Try.prog.cellsOf 97 = 5 := by kernel_rfl
section
variable {H : Type} {enc : TypeId × Value → H} {W : World} {base : Nat} {sp : Nat → Bool} {held : Bool} {v : Value} {d : DataW H} {p : List MemPlace}
set_option maxRecDepth 100000 in
theorem act7_of_trod {fuel : Nat} {cs : List Value} {x : DataW H × List MemPlace} (hf : DataW.trod enc Try.prog W 0 sp held fuel 97 cs = some x) : ∃ a : Jr.A7, cs = a.cells ∧ ActOk7 W a := by
  obtain ⟨xs, n, _, _, hlen, hxs, hfs⟩ := DataW.trod_struct Try.underlying97 hf
  rw [cells_act7] at hlen
  have hx : xs.length = 5 := hxs
  obtain ⟨y0, y1, y2, y3, y4, rfl⟩ : ∃ y0 y1 y2 y3 y4, xs = [y0, y1, y2, y3, y4] := by
    match xs, hx with
    | [y0, y1, y2, y3, y4], _ => exact ⟨y0, y1, y2, y3, y4, rfl⟩
  have f0 : DataW.trod enc Try.prog W 0 sp held n 3 ((cs.drop 0).take (Try.prog.cellsOf 3)) = some y0 := hfs 0 _ rfl
  have f1 : DataW.trod enc Try.prog W 0 sp held n 3 ((cs.drop 1).take (Try.prog.cellsOf 3)) = some y1 := hfs 1 _ rfl
  have f2 : DataW.trod enc Try.prog W 0 sp held n 3 ((cs.drop 2).take (Try.prog.cellsOf 3)) = some y2 := hfs 2 _ rfl
  have f3 : DataW.trod enc Try.prog W 0 sp held n 9 ((cs.drop 3).take (Try.prog.cellsOf 9)) = some y3 := hfs 3 _ rfl
  have f4 : DataW.trod enc Try.prog W 0 sp held n 39 ((cs.drop 4).take (Try.prog.cellsOf 39)) = some y4 := hfs 4 _ rfl
  rw [cells_int] at f0 f1 f2
  rw [cells_str] at f3
  rw [cells_nums] at f4
  obtain ⟨kind, e0, _, w0⟩ := DataW.trod_int Try.underlying3 f0
  obtain ⟨k1, e1, _, w1⟩ := DataW.trod_int Try.underlying3 f1
  obtain ⟨k2, e2, _, w2⟩ := DataW.trod_int Try.underlying3 f2
  obtain ⟨s, e3, w3⟩ := str_of_trod f3
  obtain ⟨kv, l, e4, w4, w6, w5⟩ := nums_of_trod f4
  refine ⟨⟨kind, k1, k2, s, l, kv⟩, ?_, ⟨wf_i64 w0, wf_i64 w1, wf_i64 w2, w3, w4, w5, w6⟩⟩
  replace e0 := one_of e0
  replace e1 := one_of e1
  replace e2 := one_of e2
  replace e3 := one_of e3
  replace e4 := one_of e4
  match cs, hlen with
  | [c0, c1, c2, c3, c4], _ =>
    simp at e0 e1 e2 e3 e4
    subst e0 e1 e2 e3 e4
    rfl
set_option maxRecDepth 1000000 in
theorem open_acts7 (hval : Value.okWide Try.prog W .any base 94 v) (h : DataW.Trod enc Try.prog W 0 sp held 94 v d p) : ∃ l : List Jr.A7, ActsAt7 W v l := by
  obtain ⟨a0, len, cap, rfl⟩ := okWide_slice Try.underlying94 hval
  obtain ⟨fuel, hf⟩ := h
  have hf' : DataW.trod enc Try.prog W 0 sp held fuel 94 [.slice a0 len cap] = some (d, p) := hf
  rcases open_slice Try.underlying94 hf' with ⟨hcs, hx⟩ | ⟨a, len', cap', m, n, Dd, Pl, hcs, _, hl, hm, hmm, hx, hcell⟩
  · simp at hcs
    obtain ⟨rfl, rfl, rfl⟩ := hcs
    exact ⟨[], none, 0, rfl, Nat.le_refl _, .inl rfl, by simp⟩
  · simp at hcs
    obtain ⟨rfl, rfl, rfl⟩ := hcs
    rw [cells_act7] at hcell
    have hlen : len ≤ m := by rw [hmm]; split <;> omega
    obtain ⟨l, hl1, hl2⟩ := choose_list len (fun i x => W.cells? 0 (a.add (i * 5)) 5 = some x.cells ∧ ActOk7 W x) fun i hi => by
      obtain ⟨cs', hc, ht⟩ := hcell i (by omega)
      obtain ⟨x, rfl, hx⟩ := act7_of_trod ht
      exact ⟨x, hc, hx⟩
    refine ⟨l, some a, cap, by rw [hl1], by omega, ?_, fun x hx => ?_⟩
    · by_cases h0 : len = 0
      · exact .inl (List.eq_nil_of_length_eq_zero (by omega))
      · obtain ⟨b, off, spot⟩ := a
        have hall := fun j x hj => World.cells?_some (hl2 j x hj).1
        have hlx : ∀ (x : Jr.A7), x.cells.length = 5 := fun _ => rfl
        obtain ⟨x0, hx0⟩ : ∃ x0, l[0]? = some x0 := ⟨_, List.getElem?_eq_getElem (by omega)⟩
        have h00 : W.cell? (((⟨b, off, spot⟩ : Addr).add (0 * 5)).add 0) = some (.int .i64 x0.kind) := (hall 0 x0 hx0).2.2 0 (by omega)
        have hspot : spot = none := by simpa [Addr.add] using World.cell?_spot h00
        subst hspot
        refine .inr ⟨b, off, rfl, by have := lt_of_cell h00; simpa [Addr.add] using this, fun j x hj i u hu => ?_⟩
        have hi : i < 5 := by rw [← hlx x]; exact (List.getElem?_eq_some_iff.1 hu).1
        have hc := (hall j x hj).2.2 i hi
        rw [Addr.add_mid, Addr.add_mid, hu] at hc
        exact hc
    · obtain ⟨i, hi⟩ := List.getElem?_of_mem hx
      exact (hl2 i x hi).2
end
end Go.Proofs.Ytknkbioalohofaa

/- From JrK. -/
namespace Go.Proofs.Ytknkbioalohofaa
open Go.RowKit

theorem Row1.set {w : World} {e : TypeId} {g n cap : Nat} {xs : List Value} (h : Row1 w e (.slice (some ⟨g, 0, none⟩) n cap) xs) (k : Nat) (u : Value) : Row1 (w.setCell ⟨g, k, none⟩ u) e (.slice (some ⟨g, 0, none⟩) n cap) (xs.set k u) := by
  rcases h.2 with ⟨hv, _⟩ | ⟨g', cap', cur, hv, h1, h2, h3, h4, h5, h6⟩
  · cases hv
  · injection hv with e1 e2 e3
    injection e1 with e1
    injection e1 with e1
    subst e1 e2 e3
    refine ⟨by omega, .inr ⟨g, cap, cur.setIfInBounds k u, by rw [List.length_set], h1, ?_, by rw [List.length_set]; exact h3, h4, by rw [Array.size_setIfInBounds]; exact h5, ?_⟩⟩
    · exact Blk.set_ h2 k u
    · rw [Nat.mul_one, List.length_set] at *
      rw [Array.toList_setIfInBounds, List.take_set, h6]
theorem Row1.freeR {w : World} {e : TypeId} {g n cap : Nat} {xs : List Value} (h : Row1 w e (.slice (some ⟨g, 0, none⟩) n cap) xs) (k : Nat) : w.frozen? ⟨g, k, none⟩ = false := by
  rcases h.2 with ⟨hv, _⟩ | ⟨g', cap', cur, hv, h1, h2, _⟩
  · cases hv
  · injection hv with e1 e2 e3
    injection e1 with e1
    injection e1 with e1
    subst e1 e2 e3
    exact Blk.free (cs := cur) h2 k
theorem Row1.shape {w : World} {e : TypeId} {A : Option Addr} {n c : Nat} {xs : List Value} (h : Row1 w e (.slice A n c) xs) (hx : xs ≠ []) : ∃ g cur, A = some ⟨g, 0, none⟩ ∧ Blk w g cur e := by
  rcases h.2 with ⟨hv, h0⟩ | ⟨g', cap', cur, hv, h1, h2, _⟩
  · exact absurd (List.eq_nil_of_length_eq_zero h0) hx
  · injection hv with e1 e2 e3
    exact ⟨g', cur, e1, h2⟩
section
variable {w w' : World} {S : List (List (List UInt8))} {l : List (List UInt8)} {g n c : Nat} {A : Option Addr} {u : Value}
theorem grid_shape (h : Grid w (.slice A n c) S) (hS : S ≠ []) : ∃ g cur, A = some ⟨g, 0, none⟩ ∧ Blk w g cur 35 := by
  obtain ⟨us, h1, h2, h3⟩ := h
  exact h1.shape (by rintro rfl; exact hS (List.eq_nil_of_length_eq_zero h2.symm))
theorem Grid.free (h : Grid w (.slice (some ⟨g, 0, none⟩) n c) S) (k : Nat) : w.frozen? ⟨g, k, none⟩ = false := by
  obtain ⟨us, h1, h2, h3⟩ := h
  exact h1.freeR k
theorem Grid.set {cur : Array Value} (h : Grid w (.slice (some ⟨g, 0, none⟩) n c) S) (hb : Blk w g cur 35) (hu : Row1 w 9 u (l.map strV)) (k : Nat) : Grid (w.setCell ⟨g, k, none⟩ u) (.slice (some ⟨g, 0, none⟩) n c) (S.set k l) := by
  obtain ⟨us, h1, h2, h3⟩ := h
  have ho := Only.setCell w g k u
  refine ⟨us.set k u, h1.set k u, by simp [h2], fun i u' l' a b => ?_⟩
  rw [List.getElem?_set] at a b
  by_cases e : k = i
  · rw [if_pos e] at a b
    split at a
    · split at b
      · injection a with a
        injection b with b
        subst a b
        exact hu.onlyBlk hb (by decide) ho
      · cases b
    · cases a
  · rw [if_neg e] at a b
    exact (h3 i u' l' a b).onlyBlk hb (by decide) ho
/-- Such rows stay where a row of texts that is none of them grows. -/
theorem Grid.late {B : Nat} (h : Grid w (.slice A n c) S) (hB : w.heap.size ≤ B) (hb : Below B w w') : Grid w' (.slice A n c) S := h.at_ (hb.mono hB)
end
theorem Blk.off {w w' : World} {g k : Nat} {cs : Array Value} {t : TypeId} (h : Blk w g cs t) (o : Only k w w') (hne : g ≠ k) : Blk w' g cs t := (o.block g hne).trans h
theorem Blk.ne {w : World} {g g' : Nat} {cs cs' : Array Value} {t t' : TypeId} (h : Blk w g cs t) (h' : Blk w g' cs' t') (hne : t ≠ t') : g ≠ g' := by
  rintro rfl
  unfold Blk at h h'
  rw [h] at h'
  injection h' with h'
  injection h' with _ e
  exact hne e
theorem grid_cell {w : World} {S : List (List (List UInt8))} {l : List (List UInt8)} {g n c k : Nat} (h : Grid w (.slice (some ⟨g, 0, none⟩) n c) S) (hk : S[k]? = some l) : ∃ Au cu, w.cell? ⟨g, k, none⟩ = some (.slice Au l.length cu) ∧ Row1 w 9 (.slice Au l.length cu) (l.map strV) := by
  obtain ⟨g', o, u, he, _, hc, hu⟩ := grid_at h hk
  injection he with he
  injection he with e1 e2
  subst e1 e2
  obtain ⟨Au, cu, rfl, hu⟩ := row_open hu
  rw [Nat.zero_add] at hc
  exact ⟨Au, cu, hc, hu⟩
theorem row_open' {w : World} {e : TypeId} {v : Value} {xs : List Value} (h : Row1 w e v xs) : ∃ A m c, v = .slice A m c ∧ Row1 w e (.slice A m c) xs := by
  obtain ⟨A, c, rfl, -, -⟩ := h.reads
  exact ⟨A, _, c, rfl, h⟩
theorem size_act7 : (Try.prog.info? 97).map (·.size) = some 5 := by kernel_rfl
section
variable {B : Nat} {w : World} {p j n : Nat} {r f : Int} {fs : List D.Fl} {M M' : D.Dk} {z : Int} {e' : Nat}
theorem arm_on (h : DkAt B w p ⟨r, -1, false, fs⟩) (a : Int) (ha : -9223372036854775808 ≤ a ∧ a < 9223372036854775808) :
    Calls Try.prog 40 #[.pointer (some ⟨p, 0, none⟩), .int .i64 a] w fun e w' => e = .returned (.tuple #[]) ∧ DkAt B w' p ⟨r, max a (-1), false, fs⟩ ∧ DStp B w w' := arm_to h a ha rfl
theorem arm_off (h : DkAt B w p ⟨r, f, false, fs⟩) :
    Calls Try.prog 40 #[.pointer (some ⟨p, 0, none⟩), .int .i64 (-1)] w fun e w' => e = .returned (.tuple #[]) ∧ DkAt B w' p ⟨r, -1, false, fs⟩ ∧ DStp B w w' := arm_to h (-1) (by omega) rfl
theorem arm_dead (h : DkAt B w p ⟨r, f, true, fs⟩) :
    Calls Try.prog 40 #[.pointer (some ⟨p, 0, none⟩), .int .i64 (-1)] w fun e w' => e = .returned (.tuple #[]) ∧ DkAt B w' p ⟨r, f, true, fs⟩ ∧ DStp B w w' := arm_to h (-1) (by omega) rfl
theorem jdrop_to (h : DkAt B w p M) (hj : JrAt w j p n) (hd : M.dead = false) {segs : List Jr.Sg} (hf : M.files = Jr.files segs) (hs : Jr.Up segs) (N : Int) (hM : Jr.dropK n N (segs.map Jr.Sg.k) M = (M', e')) (hz : (e' : Int) = z) :
    Calls Try.prog 62 #[.pointer (some ⟨j, 0, none⟩), .int .i64 N] w fun e w' => e = .returned (.int .i64 z) ∧ DkAt B w' p M' ∧ DStp B w w' := by
  have := drop_any h hj hd segs hf hs N
  rw [hM] at this
  rw [← hz]; exact this
end
theorem flat_set (S : List (List (List UInt8))) (n : Nat) (l : List (List UInt8)) (s : List UInt8) (h : S[n]? = some l) : (S.set n (l ++ [s])).flatten.length = S.flatten.length + 1 := by
  have hlt := (List.getElem?_eq_some_iff.1 h).1
  have e := List.take_append_drop n S
  have e2 : S.drop n = l :: S.drop (n + 1) := by
    rw [List.drop_eq_getElem_cons hlt]
    rw [List.getElem?_eq_getElem hlt] at h
    injection h with h
    rw [h]
  have h1 : S.flatten.length = (S.take n).flatten.length + (l.length + (S.drop (n + 1)).flatten.length) := by
    conv => lhs; rw [← e, e2]
    simp
  rw [h1, List.set_eq_take_append_cons_drop, if_pos hlt]
  simp
  omega
end Go.Proofs.Ytknkbioalohofaa

/- From PureSeg6. -/
namespace Go.Proofs.Ytknkbioalohofaa
namespace Jr
variable {r n first : Nat} {L : List Sg} {S : List (List (List UInt8))}
/-- What is opened behind a crash: segments L', their texts T. -/
structure Re (r n : Nat) (L' : List Sg) (T : List (List UInt8)) : Prop where
  up : Up L'
  used : D.used (files L') ≤ r
  txt : texts L' = T
  nx : next L' ≤ n + 1
  pl : Pl r L' (next L') 0 (foundL (Jr.mk r L') (next L'))
  fl : (foundL (Jr.mk r L') (next L')).flatten.length = T.length
theorem Re.of {L' : List Sg} {T : List (List UInt8)} (hup : Up L') (hs : ∀ y ∈ L', y.s = y.b.length) (hu : D.used (files L') ≤ r) (hle : ∀ y ∈ L', y.k ≤ n) (hn : n < 999999999) (hT : texts L' = T) : Re r n L' T := by
  have h1 := next_le hle
  have h2 := Pl.opened hup hs hu (by omega)
  refine ⟨hup, hu, hT, h1, h2, ?_⟩
  have := h2.flat_first
  rw [List.drop_zero] at this
  rw [this, hT]
theorem Pl.addDies (h : Pl r L n first S) (hn : n < 999999999) {pre : List Sg} {b0 s : List UInt8} (hc : Cur L pre n b0) (hpre : ∀ y ∈ pre, y ∈ L) (hu : D.used (files L) = D.used (files pre) + b0.length) (htx : texts L = texts pre ++ (C.all b0).1) (hs : s.length ≤ 65536) (hr : s.length + 8 + D.used (files L) ≤ r) (keeps : List Int) (f : Int) :
    ∃ L' T, D.crash ⟨r, f, true, files (pre ++ [⟨n, b0 ++ C.wrap s, b0.length⟩])⟩ keeps = Jr.mk r L' ∧ Re r n L' T ∧ L'.length ≤ L.length + 1 ∧ (T = texts L ∨ T = texts L ++ [s]) := by
  have hwl := C.wrap_length s
  obtain ⟨k, hk, hcr⟩ := crash_last (keeps := keeps) (pre := pre) (n := n) (b0 := b0) (w := C.wrap s) (r := r) (f := f) (d := true) (fun y hy => h.sure y (hpre y hy))
  refine ⟨_, _, hcr, Re.of (hc.upre.snoc (x := ⟨n, b0 ++ (C.wrap s).take k, (b0 ++ (C.wrap s).take k).length⟩) (by show n < _; omega) hc.lt) ?_ ?_ ?_ hn rfl, ?_, ?_⟩
  · intro y hy
    rcases List.mem_append.1 hy with e | e
    · exact h.sure y (hpre y e)
    · rw [List.mem_singleton.1 e]
  · rw [used_app]
    show _ + ((b0 ++ (C.wrap s).take k).length + 0) ≤ _
    rw [List.length_append, List.length_take]; omega
  · intro y hy
    rcases List.mem_append.1 hy with e | e
    · exact h.le y (hpre y e)
    · rw [List.mem_singleton.1 e]; exact Nat.le_refl _
  · rw [List.length_append, List.length_singleton]
    rcases hc.eq with ⟨e, _⟩ | e
    · rw [← e]; omega
    · have := congrArg List.length e
      rw [List.length_append, List.length_singleton] at this
      omega
  · rw [texts_app, texts_one, htx]
    rcases all_part hc.whole hs k hk with e | e
    · left; exact congrArg (texts pre ++ ·) e
    · right; rw [List.append_assoc]; exact congrArg (texts pre ++ ·) e
theorem texts_filter (p : Sg → Bool) : ∀ L : List Sg, (texts (L.filter p)).length ≤ (texts L).length
  | [] => Nat.le_refl _
  | x :: l => by
    have ih := texts_filter p l
    rw [texts_cons, List.length_append, List.filter_cons]
    split
    · rw [texts_cons, List.length_append]; omega
    · omega
theorem Pl.dropDies (h : Pl r L n first S) (hn : n < 999999999) {j low : Nat} {N : Int} (htk : ∀ y ∈ L.take j, (y.k : Int) < N ∧ y.k < n) (hlow : (low : Int) = max (first : Int) (min N (n : Int))) (keeps : List Int) (f : Int) (d : Bool) :
    D.crash ⟨r, f, d, files (L.drop j)⟩ keeps = Jr.mk r (L.drop j) ∧ Re r n (L.drop j) (texts (L.drop j)) ∧ endsL (texts (L.drop j)) S.flatten ∧ (S.drop low).flatten.length ≤ (texts (L.drop j)).length ∧ (texts (L.drop j)).length ≤ (S.drop first).flatten.length := by
  have hm : ∀ y ∈ L.drop j, y ∈ L := fun y hy => List.mem_of_mem_drop hy
  have hf := h.fn
  have e1 : texts L = texts (L.take j) ++ texts (L.drop j) := by rw [← texts_app, List.take_append_drop]
  have e2 := h.flat_first
  refine ⟨crash_sureL fun y hy => h.sure y (hm y hy), Re.of ⟨h.up.1.sublist (List.drop_sublist _ _), fun y hy => h.up.2 y (hm y hy)⟩ (fun y hy => h.sure y (hm y hy)) (Nat.le_trans (used_drop L j) h.used) (fun y hy => h.le y (hm y hy)) hn rfl, ends_drop S first _ _ (e2.trans e1), ?_, ?_⟩
  · rw [h.flat (n + 1 - low) low (by omega) (by omega)]
    have e3 : fromL L low = fromL (L.take j) low ++ fromL (L.drop j) low := by unfold fromL; rw [← List.filter_append, List.take_append_drop]
    rw [e3, fromL_none fun y hy => by have := htk y hy; omega, List.nil_append]
    exact texts_filter _ _
  · rw [e2, e1, List.length_append]; omega
end Jr
end Go.Proofs.Ytknkbioalohofaa

/- From JrL. -/
namespace Go.Proofs.Ytknkbioalohofaa
open Go.RowKit

section
variable {ops : Array Oper} {o : Oper} {a : Act} {w : World} {e : TypeId} {v u z : Value} {b : Nat} {xs ys : List Value}
theorem wpList_append_rowsW {rest : List Oper} {Q : Exit → Act → World → Prop} (hw : Region.wanted o (yielded ops a.tmps) = true) (hinfo : Info1 e z b) (s x : Operand) (t : TypeId) (hop : o.op = Op.call { callee := Callee.builtin Builtin.append, args := #[s, x], argTypes := #[t, t] }) (ht : Try.prog.underlying t = some (.slice e)) (hs : a.eval s = v) (h : Row1 w e v xs)
    (hx : a.eval x = u) (h' : Row1 w e u ys) (hone : ∀ x ∈ ys, x.oneCell' = true) (hlen : (xs.length + ys.length) * b ≤ 140737488355328)
    (hK : ∀ v' w', Row1 w' e v' (xs ++ ys) → w.grownBy w' v.ownBlock → (v'.ownBlock = v.ownBlock ∨ ∃ k, w.heap.size ≤ k ∧ v'.ownBlock = some k) → wpList Try.prog ops Q rest (a.put o.dst v') w') : wpList Try.prog ops Q (o :: rest) a w :=
  BigFrame.wpList_want hw fun _ hK' => by
    obtain ⟨v', w', hrun, r1, r2, r3⟩ := run_append_rows h h' hinfo t o.type ht hone hlen
    unfold Oper.wp
    simp [execOp, hop, resolve, invoke, builtin, hs, hx, hrun, Result.andThen]
    exact hK' _ _ (hK v' w' r1 r2 r3)
theorem wpList_append_rowW {rest : List Oper} {Q : Exit → Act → World → Prop} (hw : Region.wanted o (yielded ops a.tmps) = true) (hinfo : Info1 e z b) (s x : Operand) (t : TypeId) (hop : o.op = Op.call { callee := Callee.builtin Builtin.append, args := #[s, x], argTypes := #[t, t] }) (ht : Try.prog.underlying t = some (.slice e)) (hs : a.eval s = v) (h : Row1 w e v xs)
    (ad : Addr) (m c : Nat) (news : List Value) (hx : a.eval x = .slice (some ad) m c) (hl : news.length = m) (hnews : ∀ j u, news[j]? = some u → w.cell? (ad.add j) = some u) (hone : ∀ u ∈ news, u.oneCell' = true) (hlen : (xs.length + m) * b ≤ 140737488355328)
    (hK : ∀ v' w', Row1 w' e v' (xs ++ news) → w.grownBy w' v.ownBlock → (v'.ownBlock = v.ownBlock ∨ ∃ k, w.heap.size ≤ k ∧ v'.ownBlock = some k) → wpList Try.prog ops Q rest (a.put o.dst v') w') : wpList Try.prog ops Q (o :: rest) a w :=
  BigFrame.wpList_want hw fun _ hK' => wp_append_row hinfo s x t hop ht hs h ad m c news hx hl hnews hone hlen fun v' w' h1 h2 h3 => hK' _ _ (hK v' w' h1 h2 h3)
end
theorem flat_to {w : World} {v : Value} {S : List (List (List UInt8))} (h : Grid w v S) (hS : S.length ≤ 1000000) (hT : S.flatten.length ≤ 1000000) (f : Nat) (hf : f ≤ 1000000) {z : Int} (hz : (f : Int) = z) {X : List (List UInt8)} (hX : (S.drop f).flatten = X) {m : Nat} (hm : X.length = m) :
    Calls Try.prog 63 #[v, .int .i64 z] w fun e w' => ∃ A c, e = .returned (.slice A m c) ∧ Row1 w' 9 (.slice A m c) (X.map strV) ∧ Below w.heap.size w w' := by
  refine (flat_any h hS hT f hf hz).mono ?_
  rintro e w' ⟨u, rfl, h1, -, h2⟩
  rw [hX] at h1
  obtain ⟨A, c, rfl, h1⟩ := row_open h1
  rw [hm] at h1 ⊢
  exact ⟨A, c, rfl, h1, h2⟩
theorem ends_to {w : World} {v1 v2 : Value} {a b : List (List UInt8)} (h1 : SRead w v1 (a.map strV)) (h2 : SRead w v2 (b.map strV)) (ha : a.length ≤ 1000000) (hb : b.length ≤ 1000000) {t : Bool} (ht : decide (endsL a b) = t) :
    Calls Try.prog 64 #[v1, v2] w fun e w' => e = .returned (.bool t) ∧ Below w.heap.size w w' := by
  rw [← ht]; exact ends_any a b h1 h2 ha hb
theorem two_rows (w : World) (s : List UInt8) (W : World) (h : W = w.alloc (.cells #[strV s] 9)) : ∀ j u, ([strV s] : List Value)[j]? = some u → W.cell? ((⟨w.heap.size, 0, none⟩ : Addr).add j) = some u := by
  subst h
  exact new_cells w [strV s] _ rfl _
end Go.Proofs.Ytknkbioalohofaa
