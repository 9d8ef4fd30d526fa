/- The walks of in and of within. -/
import Derived.Test.YtknkbioalohofaaKit5
import Derived.Test.YtknkbioalohofaaPureName
namespace Go.Proofs.Ytknkbioalohofaa
open Go.RowKit

def runeV (n : Int) : Value := .int .i32 n
def numV (n : Int) : Value := .int .i64 n
namespace N
theorem inB_none (c : Int) (l : List Int) (j : Nat) (h : ¬ j + 1 < l.length) : inB c (l.drop j) = false := by
  have hl : (l.drop j).length ≤ 1 := by rw [List.length_drop]; omega
  generalize l.drop j = t at hl
  match t, hl with
  | [], _ => rfl
  | [_], _ => rfl
theorem inB_at (c : Int) (l : List Int) (j : Nat) (h : j + 1 < l.length) : inB c (l.drop j) = ((decide (l.getD j 0 ≤ c) && decide (c ≤ l.getD (j + 1) 0)) || inB c (l.drop (j + 2))) := by
  rw [List.drop_eq_getElem_cons (show j < l.length by omega), List.drop_eq_getElem_cons (show j + 1 < l.length by omega), List.getD_eq_getElem?_getD, List.getElem?_eq_getElem (show j < l.length by omega), List.getD_eq_getElem?_getD, List.getElem?_eq_getElem h]
  rfl
end N
set_option maxRecDepth 100000 in
set_option maxHeartbeats 1000000 in
theorem in_any (c : Int) (l : List Int) (v : Value) (w : World) (hS : SRead w v (l.map runeV)) (hl : l.length ≤ 1000) :
    Calls Try.prog 100 #[.int .i32 c, v] w fun e w' => e = .returned (.bool (N.inB c l)) ∧ w = w' := by
  obtain ⟨A, cap, rfl, hcap, hA⟩ := hS
  rw [List.length_map] at hcap ⊢
  obtain ⟨n, hn⟩ : ∃ n, n = l.length := ⟨_, rfl⟩
  rw [← hn] at hcap hl ⊢
  have Hn := Lib.hid hn
  clear hn
  go_enter Try.func100, Try.ntmps100
  go_wp2
  go_loop [5] (fun v => ∃ j : Nat, j ≤ n ∧ v = .int .i64 (j : Int) ∧ N.inB c (l.drop j) = N.inB c l) (fun v => n - (intOf v).toNat)
  case atStart => exact ⟨0, by omega, rfl, rfl⟩
  case round =>
    obtain ⟨j, hj, rfl, hin⟩ := hrel
    by_cases hlt : j + 1 < n
    · have d1 : decide ((j : Int) + 1 < (n : Int)) = true := by simp; omega
      have d1' : decide (j + 1 < n) = true := by simpa using hlt
      have hjl : j + 1 < l.length := by have := Hn.out; omega
      have h1 : (j : Int) < (n : Int) := by omega
      have h2 : (j : Int) + 1 < (n : Int) := by omega
      have h0 : (0 : Int) ≤ (j : Int) := by omega
      have hb : (n : Int) ≤ 1000 := by omega
      obtain ⟨g, o, rfl, _, hc⟩ := hA.resolve_left (by intro e; have := congrArg List.length e; simp at this; rw [this] at hjl; simp at hjl)
      have c1 := hc j (runeV (l.getD j 0)) (by rw [List.getElem?_map, List.getElem?_eq_getElem (show j < l.length by omega), List.getD_eq_getElem?_getD, List.getElem?_eq_getElem (show j < l.length by omega)]; rfl)
      have c2 := hc (j + 1) (runeV (l.getD (j + 1) 0)) (by rw [List.getElem?_map, List.getElem?_eq_getElem hjl, List.getD_eq_getElem?_getD, List.getElem?_eq_getElem hjl]; rfl)
      unfold runeV at c1 c2
      have hst := (N.inB_at c l j hjl).symm.trans hin
      generalize l.getD j 0 = a at *
      generalize l.getD (j + 1) 0 = b at *
      clear hA hc hin hjl
      by_cases ha : a ≤ c
      · have d2 : decide (a ≤ c) = true := by simpa using ha
        by_cases hb2 : c ≤ b
        · have d3 : decide (c ≤ b) = true := by simpa using hb2
          rw [d2, d3] at hst
          have Hst := Lib.hid (show true = N.inB c l from hst)
          clear hst ha hb2
          go_wp2
          go_ret
          exact ⟨by rw [← Hst.out]; rfl, rfl⟩
        · have d3 : decide (c ≤ b) = false := by simpa using hb2
          rw [d2, d3] at hst
          have Hst := Lib.hid (show N.inB c (l.drop (j + 2)) = N.inB c l from hst)
          clear hst ha hb2
          go_wp2
          go_round
          case rel => exact ⟨j + 2, by omega, by go_num, Hst.out⟩
          case measure => simp [intOf]; omega
      · have d2 : decide (a ≤ c) = false := by simpa using ha
        rw [d2] at hst
        have Hst := Lib.hid (show N.inB c (l.drop (j + 2)) = N.inB c l from hst)
        clear hst ha
        go_wp2
        go_round
        case rel => exact ⟨j + 2, by omega, by go_num, Hst.out⟩
        case measure => simp [intOf]; omega
    · have d1 : decide ((j : Int) + 1 < (n : Int)) = false := by simp; omega
      have d1' : decide (j + 1 < n) = false := by simpa using hlt
      have hno := (N.inB_none c l j (by have := Hn.out; omega)).symm.trans hin
      have Hno := Lib.hid hno
      clear hno hin hlt
      go_wp2
      go_ret
      exact ⟨by rw [← Hno.out]; rfl, rfl⟩
end Go.Proofs.Ytknkbioalohofaa
