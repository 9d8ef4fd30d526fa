/- The walk of same: two lists of texts. -/
import Derived.Test.YtgjmnhbkdccgpaaShaAwake
import Derived.Test.YtgjmnhbkdccgpaaKit5
namespace Go.Proofs.Ytgjmnhbkdccgpaa
open Go.RowKit

set_option maxRecDepth 100000 in
set_option maxHeartbeats 1000000 in
theorem same_any (a b : List (List UInt8)) (va vb : Value) (w : World) (ha : SRead w va (a.map strV)) (hb : SRead w vb (b.map strV)) (hal : a.length ≤ 1000000) :
    Calls Try.prog 27 #[va, vb] w fun e w' => e = .returned (.bool (a == b)) ∧ ∃ n, w' = w.drewN n := by
  obtain ⟨A, cA, rfl, hcA, hA⟩ := ha
  obtain ⟨B, cB, rfl, hcB, hB⟩ := hb
  rw [List.length_map] at hcA hcB ⊢
  rw [List.length_map]
  by_cases hl : a.length = b.length
  · have d0 : ((a.length : Int) != (b.length : Int)) = false := by rw [hl]; simp
    have d0' : ((a.length : Int) == (b.length : Int)) = true := by rw [hl]; simp
    obtain ⟨n, hn⟩ : ∃ n, n = a.length := ⟨_, rfl⟩
    obtain ⟨m, hm⟩ : ∃ m, m = b.length := ⟨_, rfl⟩
    rw [← hn] at d0 d0' hcA hal ⊢
    rw [← hm] at d0 d0' hcB ⊢
    have Hn := Lib.hid hn
    have Hm := Lib.hid hm
    have hmn : m ≤ n ∧ n ≤ m := by omega
    clear hn hm hl
    go_enter Try.func27, Try.ntmps27
    go_wp2
    clear d0 d0'
    go_loopw [13] (fun i wr => ∃ k : Nat, k ≤ n ∧ i = .int .i64 (k : Int) ∧ a.take k = b.take k ∧ ∃ q, wr = w.drewN q) (fun i _ => n - (intOf i).toNat)
    case atStart => exact ⟨0, by omega, rfl, rfl, 0, rfl⟩
    case round =>
      obtain ⟨k, hk, rfl, htk, q, rfl⟩ := hrel
      by_cases hlt : k < n
      · have d1 : decide ((k : Int) < (n : Int)) = true := by simp; omega
        have d1' : decide (k < n) = true := by simp; omega
        have hka : k < a.length := by have := Hn.out; omega
        have hkb : k < b.length := by have := Hm.out; omega
        obtain ⟨ga, oa, rfl, hga, ca⟩ := hA.resolve_left (by intro e; have := congrArg List.length e; simp at this; rw [this] at hka; simp at hka)
        obtain ⟨gb, ob, rfl, hgb, cb⟩ := hB.resolve_left (by intro e; have := congrArg List.length e; simp at this; rw [this] at hkb; simp at hkb)
        have e1 : w.cell? ⟨ga, oa + k, none⟩ = some (.string ⟨a[k].toArray⟩) := ca k _ (by rw [List.getElem?_map, List.getElem?_eq_getElem hka]; rfl)
        have e2 : w.cell? ⟨gb, ob + k, none⟩ = some (.string ⟨b[k].toArray⟩) := cb k _ (by rw [List.getElem?_map, List.getElem?_eq_getElem hkb]; rfl)
        have j0 : (0 : Int) ≤ (k : Int) := by omega
        have j1 : (k : Int) < (n : Int) := by omega
        have j2 : (k : Int) < (m : Int) := by omega
        have hst := str_eq a[k] b[k]
        have Htk := Lib.hid htk
        clear ca cb hA hB htk
        by_cases hx : a[k] = b[k]
        · clear hst
          have Hnx : Hid (a.take (k + 1) = b.take (k + 1)) := Lib.hid (by rw [List.take_succ_eq_append_getElem hka, List.take_succ_eq_append_getElem hkb, Htk.out, hx])
          rw [hx] at e1
          clear hx
          generalize b[k] = y at *
          go_wp2
          go_quiet (fail)
          go_wp2
          go_roundw
          case rel => exact ⟨k + 1, by omega, by go_num, Hnx.out, q + nq, rfl⟩
          case measure => simp [intOf]; omega
        · replace hst : (a[k] == b[k]) = false := beq_eq_false_iff_ne.2 hx
          have Hx : Hid ((a == b) = false) := Lib.hid (by rw [beq_eq_false_iff_ne]; rintro rfl; exact hx rfl)
          clear hx
          generalize b[k] = y at *
          generalize a[k] = x at *
          go_wp2
          go_quiet (fail)
          go_wp2
          go_ret
          exact ⟨by rw [Hx.out]; rfl, q + nq, by rw [World.drewN_drewN]⟩
      · obtain rfl : k = n := by omega
        have Hx : Hid ((a == b) = true) := Lib.hid (by
          rw [beq_iff_eq]
          rw [List.take_of_length_le (by have := Hn.out; omega), List.take_of_length_le (by have := Hm.out; omega)] at htk
          exact htk)
        clear htk hA hB
        go_wp2
        go_ret
        exact ⟨by rw [Hx.out]; rfl, _, rfl⟩
  · have d0 : ((a.length : Int) != (b.length : Int)) = true := by rw [bne_iff_ne]; omega
    have d0' : ((a.length : Int) == (b.length : Int)) = false := by rw [beq_eq_false_iff_ne]; omega
    have Hx : Hid ((a == b) = false) := Lib.hid (by rw [beq_eq_false_iff_ne]; rintro rfl; exact hl rfl)
    generalize a.length = n at *
    generalize b.length = m at *
    clear hA hB hl
    go_enter Try.func27, Try.ntmps27
    go_wp2
    go_ret
    exact ⟨by rw [Hx.out]; rfl, 0, rfl⟩
end Go.Proofs.Ytgjmnhbkdccgpaa
