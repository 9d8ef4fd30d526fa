/- The walk of merge.least. -/
import Derived.Test.YtnfabofkfnmplaaLvK
namespace Go.Proofs.Ytnfabofkfnmplaa
open Go.RowKit

/-- Cursors: lists that are read, each with its number. -/
def cuC (x : Value × Nat) : List Value := [x.1, .int .i64 (x.2 : Int)]
def CRow (w : World) (v : Value) (vs : List Value) : Prop := RowN w 50 2 v (vs.zipIdx.map cuC)
def ReadAll (w : World) (vs : List Value) (ls : List (List L.En)) : Prop := vs.length = ls.length ∧ ∀ (i : Nat) (v : Value) (l : List L.En), vs[i]? = some v → ls[i]? = some l → ERead w v l
theorem ReadAll.at_ {w w' : World} {vs : List Value} {ls : List (List L.En)} (h : ReadAll w vs ls) (hb : Below w.heap.size w w') : ReadAll w' vs ls := ⟨h.1, fun i v l hv hl => (h.2 i v l hv hl).at_ hb⟩
theorem size_cu : (Try.prog.info? 50).map (·.size) = some 2 := by kernel_rfl
theorem info_cu : InfoN 50 (.agg #[.slice none 0 0, .int .i64 0]) 2 32 := ⟨by kernel_rfl, rfl, by omega, by omega⟩
theorem crow_get {w : World} {A : Option Addr} {m c : Nat} {vs : List Value} (h : CRow w (.slice A m c) vs) {j : Nat} {x : Value} (hj : vs[j]? = some x) : ∃ g, A = some ⟨g, 0, none⟩ ∧ g < w.heap.size ∧ w.rangeAt g (j * 2) [x, .int .i64 (j : Int)] := by
  have hz : (vs.zipIdx.map cuC)[j]? = some [x, .int .i64 (j : Int)] := by
    rw [List.getElem?_map, List.getElem?_zipIdx, hj]
    simp [cuC]
  rcases RowN.form h with ⟨e, e2⟩ | ⟨g', cap, e, _⟩
  · rw [e2] at hz; cases hz
  · injection e with e1 _ _
    exact ⟨g', e1, by rw [e1] at h; exact RowN.lt h rfl, by rw [e1] at h; exact RowN.get h rfl hz⟩
theorem crow_open {w : World} {v : Value} {vs : List Value} (h : CRow w v vs) : ∃ A m c, v = .slice A m c ∧ m = vs.length ∧ CRow w (.slice A m c) vs := by
  obtain ⟨A, m, c, rfl, hm, h⟩ := rowN_open' h
  exact ⟨A, m, c, rfl, by rw [hm, List.length_map, List.length_zipIdx], h⟩
/-- The first entry's key of a list that is read. -/
theorem eread_head {w : World} {v : Value} {x : L.En} {t : List L.En} (h : ERead w v (x :: t)) : ∃ g o n c, v = .slice (some ⟨g, o, none⟩) n c ∧ n = t.length + 1 ∧ g < w.heap.size ∧ w.rangeAt g o (enC x) ∧ n ≤ c := by
  obtain ⟨A, c, rfl, hc, h⟩ := eread_open h
  obtain ⟨g, o, rfl, hg, hr⟩ := eread_at h (k := 0) (f := x) rfl
  rw [Nat.zero_mul, Nat.add_zero] at hr
  exact ⟨g, o, _, c, rfl, rfl, hg, hr, hc⟩
def atV : Option (Nat × L.En) → Int
  | none => -1
  | some (i, _) => (i : Int)
set_option maxRecDepth 100000 in
set_option maxHeartbeats 4000000 in
theorem least_any (vs : List Value) (ls : List (List L.En)) (v : Value) (w : World) (h : CRow w v vs) (hr : ReadAll w vs ls) (hl : ls.length ≤ 1000) :
    Calls Try.prog 11 #[v] w fun e w' => e = .returned (.int .i64 (atV (L.lst ls))) ∧ Below w.heap.size w w' := by
  obtain ⟨A, m, c, rfl, hm, h⟩ := crow_open h
  have hml : m = ls.length := by rw [hm, hr.1]
  have hgo : L.lst ls = L.lstGo 0 none (ls.drop 0) := rfl
  generalize L.lst ls = R at *
  have hm1000 : m ≤ 1000 := by rw [hml]; exact hl
  replace hm := Lib.hid hm
  replace hml := Lib.hid hml
  replace hr := Lib.hid hr
  replace h := Lib.hid h
  go_enter Try.func11, Try.ntmps11
  go_wp2
  go_loopw [3, 8] (fun u i wr => ∃ (k : Nat) (cur : Option (Nat × L.En)), u = .int .i64 (atV cur) ∧ k ≤ m ∧ i = .int .i64 (k : Int) ∧ Hid (R = L.lstGo k cur (ls.drop k)) ∧ Hid (∀ j x, cur = some (j, x) → j < k ∧ ∃ t, ls[j]? = some (x :: t)) ∧ Below w.heap.size w wr) (fun _ i _ => m - (intOf i).toNat)
  case atStart => exact ⟨0, none, rfl, Nat.zero_le _, rfl, Lib.hid hgo, Lib.hid (fun j x e => by cases e), Below.refl _ _⟩
  case round =>
    clear hgo
    obtain ⟨k, cur, rfl, hk, rfl, hgo, hcur, hB⟩ := hrel
    have q0 : (0 : Int) ≤ (k : Int) := by omega
    by_cases hlt : k < m
    · have d1 : decide ((k : Int) < (m : Int)) = true := decide_eq_true (by omega)
      have d1' : decide (k < m) = true := decide_eq_true hlt
      have q1 : (k : Int) < (m : Int) := by omega
      have hw1 : IntKind.i64.wrap ((k : Int) + 1) = ((k + 1 : Nat) : Int) := by rw [IntWalk.i64_in _ (by omega)]; omega
      obtain ⟨y, hy⟩ : ∃ y, vs[k]? = some y := ⟨_, List.getElem?_eq_getElem (by have := hm.out; omega)⟩
      obtain ⟨l, hlk⟩ : ∃ l, ls[k]? = some l := ⟨_, List.getElem?_eq_getElem (by have := hml.out; omega)⟩
      have hdr : ls.drop k = l :: ls.drop (k + 1) := by
        obtain ⟨h1, rfl⟩ := List.getElem?_eq_some_iff.1 hlk
        exact List.drop_eq_getElem_cons h1
      obtain ⟨g, rfl, hg, cR⟩ := crow_get (RowN.at_ h.out hB) hy
      have hrd := (hr.out.at_ hB).2 k y l hy hlk
      have hgo2 := hgo.out
      rw [hdr] at hgo2
      have hk1 := Lib.hid (show k + 1 ≤ m by omega)
      cases l with
      | nil =>
        obtain ⟨A2, c2, rfl, _⟩ := eread_open hrd
        have Hgo := Lib.hid (show R = L.lstGo (k + 1) cur (ls.drop (k + 1)) by rw [hgo2]; cases cur <;> rfl)
        have hcur2 := Lib.hid (fun j x e => ⟨Nat.lt_succ_of_lt (hcur.out j x e).1, (hcur.out j x e).2⟩ : ∀ j x, cur = some (j, x) → j < k + 1 ∧ ∃ t, ls[j]? = some (x :: t))
        have hsz : (Try.prog.info? 50).map (·.size) = some [Value.slice A2 0 c2, .int .i64 (k : Int)].length := size_cu
        have cR' : wr.rangeAt g (k * 2) [Value.slice A2 0 c2, .int .i64 (k : Int)] := cR
        have hBa := hB.alloc hB.size (.cells #[.slice A2 0 c2, .int .i64 (k : Int)] 50)
        have z0 : decide ((0 : Int) < 0) = false := rfl
        clear hgo hgo2 hdr hcur cR hrd hy hlk
        go_wp2_with (refine wpList_load_mid rfl 50 (.tmp 11) rfl g (k * 2) rfl _ _ cR' Try.underlying50 rfl hsz ?_; go_frame)
        go_quiet (fail)
        go_wp2
        go_roundw
        case rel => exact ⟨k + 1, cur, rfl, hk1.out, rfl, Hgo, hcur2, by first | exact below_drewN hBa _ | exact hBa⟩
        case measure => simp [intOf]; have := hk1.out; omega
      | cons x t =>
        obtain ⟨g1, o1, n1, c1, rfl, hn1, hg1, hrx, hnc⟩ := eread_head hrd
        have x0 : wr.cell? ⟨g1, o1, none⟩ = some (.string ⟨x.key.toArray⟩) := hrx 0 _ rfl
        have z0 : decide ((0 : Int) < (n1 : Int)) = true := decide_eq_true (by omega)
        have z0' : decide (0 < n1) = true := decide_eq_true (by omega)
        have z1 : (0 : Int) < (n1 : Int) := by omega
        have hsz : (Try.prog.info? 50).map (·.size) = some [Value.slice (some ⟨g1, o1, none⟩) n1 c1, .int .i64 (k : Int)].length := size_cu
        have cR' : wr.rangeAt g (k * 2) [Value.slice (some ⟨g1, o1, none⟩) n1 c1, .int .i64 (k : Int)] := cR
        have hBa := hB.alloc hB.size (.cells #[.slice (some ⟨g1, o1, none⟩) n1 c1, .int .i64 (k : Int)] 50)
        have hnew := Lib.hid (fun j y e => by injection e with e; injection e with e1 e2; subst e1 e2; exact ⟨Nat.lt_succ_self _, t, hlk⟩ : ∀ j y, some (k, x) = some (j, y) → j < k + 1 ∧ ∃ t, ls[j]? = some (y :: t))
        have Hlk := Lib.hid hlk
        clear hdr cR hrd hy hlk hrx hn1 hnc
        cases cur with
        | none =>
          have Hgo := Lib.hid (show R = L.lstGo (k + 1) (some (k, x)) (ls.drop (k + 1)) from hgo2)
          clear hgo hgo2 hcur
          unfold atV
          go_wp2_with (refine wpList_load_mid rfl 50 (.tmp 11) rfl g (k * 2) rfl _ _ cR' Try.underlying50 rfl hsz ?_; go_frame)
          go_quiet (fail)
          go_wp2
          go_roundw
          case rel => exact ⟨k + 1, some (k, x), rfl, hk1.out, rfl, Hgo, hnew, by first | exact below_drewN hBa _ | exact hBa⟩
          case measure => simp [intOf]; have := hk1.out; omega
        | some jm =>
          obtain ⟨j, ym⟩ := jm
          obtain ⟨hjk, tm, hjl⟩ := hcur.out j ym rfl
          obtain ⟨y2, hy2⟩ : ∃ y, vs[j]? = some y := ⟨_, List.getElem?_eq_getElem (by have := hm.out; omega)⟩
          obtain ⟨g', e', hg', cJ⟩ := crow_get (RowN.at_ h.out hB) hy2
          injection e' with e'
          injection e' with e'
          subst e'
          obtain ⟨g2, o2, n2, c2, rfl, hn2, hg2, hrm, hnc2⟩ := eread_head ((hr.out.at_ hB).2 j y2 _ hy2 hjl)
          have m0 : wr.cell? ⟨g2, o2, none⟩ = some (.string ⟨ym.key.toArray⟩) := hrm 0 _ rfl
          have r0 : wr.cell? ⟨g, j * 2, none⟩ = some (.slice (some ⟨g2, o2, none⟩) n2 c2) := cJ 0 _ rfl
          have w0 : decide ((j : Int) < 0) = false := decide_eq_false (by omega)
          have w1 : (0 : Int) ≤ (j : Int) := by omega
          have w2 : (j : Int) < (m : Int) := by omega
          have w3 : (0 : Int) < (n2 : Int) := by omega
          have hlb : Op.bytesLess x.key ym.key = L.B x.key ym.key := L.less_before _ _
          have hgo3 : R = if L.B x.key ym.key = true then L.lstGo (k + 1) (some (k, x)) (ls.drop (k + 1)) else L.lstGo (k + 1) (some (j, ym)) (ls.drop (k + 1)) := hgo2
          have hold := Lib.hid (fun j' y e => ⟨Nat.lt_succ_of_lt (hcur.out j' y e).1, (hcur.out j' y e).2⟩ : ∀ j' y, some (j, ym) = some (j', y) → j' < k + 1 ∧ ∃ t, ls[j']? = some (y :: t))
          have hne : ¬ wr.heap.size = g := by omega
          have hne' : ¬ g = wr.heap.size := by omega
          clear hgo hgo2 hcur hy2 hjl cJ hrm hn2 hnc2 hjk
          unfold atV
          generalize x.key = kx at *
          generalize ym.key = km at *
          cases hb : L.B kx km with
          | true =>
            rw [hb] at hlb hgo3
            rw [if_pos rfl] at hgo3
            have Hgo := Lib.hid hgo3
            clear hgo3 hb
            go_wp2_with (refine wpList_load_mid rfl 50 (.tmp 11) rfl g (k * 2) rfl _ _ cR' Try.underlying50 rfl hsz ?_; go_frame)
            go_quiet (fail)
            go_wp2
            go_roundw
            case rel => exact ⟨k + 1, some (k, x), rfl, hk1.out, rfl, Hgo, hnew, by first | exact below_drewN hBa _ | exact hBa⟩
            case measure => simp [intOf]; have := hk1.out; omega
          | false =>
            rw [hb] at hlb hgo3
            rw [if_neg (by simp)] at hgo3
            have Hgo := Lib.hid hgo3
            clear hgo3 hb
            go_wp2_with (refine wpList_load_mid rfl 50 (.tmp 11) rfl g (k * 2) rfl _ _ cR' Try.underlying50 rfl hsz ?_; go_frame)
            go_quiet (fail)
            go_wp2
            go_roundw
            case rel => exact ⟨k + 1, some (j, ym), rfl, hk1.out, rfl, Hgo, hold, by first | exact below_drewN hBa _ | exact hBa⟩
            case measure => simp [intOf]; have := hk1.out; omega
    · have d1 : decide ((k : Int) < (m : Int)) = false := decide_eq_false (by omega)
      have d1' : decide (k < m) = false := decide_eq_false hlt
      have hend := hgo.out
      rw [List.drop_of_length_le (by have := hml.out; omega)] at hend
      have Hend := Lib.hid (show R = cur by rw [hend]; cases cur <;> rfl)
      clear hend hgo hcur
      go_wp2
      go_ret
      exact ⟨by (rw [Hend.out]; try rfl), hB⟩
end Go.Proofs.Ytnfabofkfnmplaa
