/- The walks of a state's at and below. -/
import Derived.Test.YtnfabofkfnmplaaLvB
namespace Go.Proofs.Ytnfabofkfnmplaa
open Go.RowKit

def stV (s : L.St) (v : Value) : Value := .agg #[.int .i64 (s.next : Int), .int .i64 (s.log : Int), v]
set_option maxRecDepth 100000 in
set_option maxHeartbeats 2000000 in
theorem at_any (s : L.St) (n : Nat) (v : Value) (w : World) (h : FRead w v s.files) (hl : s.files.length ≤ 1000) :
    Calls Try.prog 19 #[stV s v, .int .i64 (n : Int)] w fun e w' => ∃ v', e = .returned v' ∧ FRow w' v' (L.atL s n) ∧ (v'.ownBlock = none ∨ ∃ k, w.heap.size ≤ k ∧ v'.ownBlock = some k) ∧ Below w.heap.size w w' := by
  obtain ⟨A, c, rfl, hcap, h⟩ := fread_open h
  have hat : L.atL s n = [] ++ (s.files.drop 0).filter (fun f => decide (f.lev = n)) := rfl
  obtain ⟨nx, lg, l⟩ := s
  dsimp only at h hcap hl hat
  generalize L.atL ⟨nx, lg, l⟩ n = R at *
  unfold stV
  dsimp only
  have hB0 := below_alloc1 w (.cells #[.int .i64 (nx : Int), .int .i64 (lg : Int), .slice A l.length c] 29)
  go_enter Try.func19, Try.ntmps19
  go_wp2
  go_loopw [5, 11] (fun u i wr => ∃ (k : Nat) (acc : List L.Fi), k ≤ l.length ∧ acc.length ≤ k ∧ i = .int .i64 (k : Int) ∧ Hid (R = acc ++ (l.drop k).filter (fun f => decide (f.lev = n))) ∧ FRow wr u acc ∧ (u.ownBlock = none ∨ ∃ k, w.heap.size ≤ k ∧ u.ownBlock = some k) ∧ Below w.heap.size w wr) (fun _ i _ => l.length - (intOf i).toNat)
  case atStart => exact ⟨0, [], Nat.zero_le _, by simp, rfl, Lib.hid hat, RowN.nil _ _ _, .inl rfl, hB0⟩
  case round =>
    clear hB0 hat
    obtain ⟨k, acc, hk, hacc, rfl, hgo, hrow, hown, hB⟩ := hrel
    have q0 : (0 : Int) ≤ (k : Int) := by omega
    by_cases hm : k < l.length
    · have d1 : decide ((k : Int) < (l.length : Int)) = true := decide_eq_true (by omega)
      have d1' : decide (k < l.length) = true := decide_eq_true hm
      have q1 : (k : Int) < (l.length : Int) := by omega
      obtain ⟨f, hf⟩ : ∃ f, l[k]? = some f := ⟨_, List.getElem?_eq_getElem hm⟩
      obtain ⟨g, o, rfl, hg, cR⟩ := fread_at (h.at_ hB) hf
      have hdr : l.drop k = f :: l.drop (k + 1) := by
        rw [List.drop_eq_getElem_cons hm]
        rw [List.getElem?_eq_getElem hm] at hf
        injection hf with hf
        rw [hf]
      have hgo2 := hgo.out
      rw [hdr, List.filter_cons] at hgo2
      have cR' : wr.rangeAt g (o + k * 5) [.int .i64 (f.num : Int), .int .i64 (f.lev : Int), .int .i64 (f.size : Int), .string ⟨f.first.toArray⟩, .string ⟨f.last.toArray⟩] := cR
      have hsz : (Try.prog.info? 33).map (·.size) = some [Value.int .i64 (f.num : Int), .int .i64 (f.lev : Int), .int .i64 (f.size : Int), .string ⟨f.first.toArray⟩, .string ⟨f.last.toArray⟩].length := size_fi
      have hw1 : IntKind.i64.wrap ((k : Int) + 1) = ((k + 1 : Nat) : Int) := by rw [IntWalk.i64_in _ (by omega)]; omega
      have hBa := hB.alloc hB.size (.cells #[.int .i64 (f.num : Int), .int .i64 (f.lev : Int), .int .i64 (f.size : Int), .string ⟨f.first.toArray⟩, .string ⟨f.last.toArray⟩] 33)
      have hrowa := hrow.alloc (.cells #[.int .i64 (f.num : Int), .int .i64 (f.lev : Int), .int .i64 (f.size : Int), .string ⟨f.first.toArray⟩, .string ⟨f.last.toArray⟩] 33)
      clear hdr cR hf hg
      by_cases ht : f.lev = n
      · have e1 : ((f.lev : Int) == (n : Int)) = true := by rw [beq_iff_eq]; omega
        have e1' : decide (f.lev = n) = true := decide_eq_true ht
        rw [if_pos (decide_eq_true ht)] at hgo2
        have Hgo := Lib.hid (show R = (acc ++ [f]) ++ (l.drop (k + 1)).filter (fun f => decide (f.lev = n)) by rw [hgo2]; simp)
        have hlm : ((acc.map fiC).length + 1) * 56 ≤ 140737488355328 := by rw [List.length_map]; omega
        clear hgo hgo2 ht
        go_wp2_with (first | (refine wpList_load_mid rfl 33 (.tmp 13) rfl g (o + k * 5) rfl _ _ cR' Try.underlying33 rfl hsz ?_; go_frame) | (at_builtin; refine wpList_append_rowN rfl info_fi (.tmp 19) (.tmp 21) 27 rfl Try.underlying27 rfl (RowN.alloc hrowa _) ⟨wr.heap.size + 1, 0, none⟩ 1 1 [fiC f] rfl rfl (len_fiC _) (new2 wr _ _ _ rfl _) (one_fiC _) hlm ?_; intro v3 w3 hrow3 hg3 hr3; have hBb := hBa.alloc hBa.size (.cells #[.int .i64 (f.num : Int), .int .i64 (f.lev : Int), .int .i64 (f.size : Int), .string ⟨f.first.toArray⟩, .string ⟨f.last.toArray⟩] 33); have hB3 := below_grown_own hBb hBb.size hg3 hown; have hown3 := own_later hown hBb.size hr3))
        go_roundw
        case rel => exact ⟨k + 1, acc ++ [f], by omega, by rw [List.length_append, List.length_singleton]; omega, rfl, Hgo, frow_snoc hrow3, hown3, hB3⟩
        case measure => simp [intOf]; omega
      · have e1 : ((f.lev : Int) == (n : Int)) = false := by rw [beq_eq_false_iff_ne]; omega
        have e1' : decide (f.lev = n) = false := decide_eq_false ht
        rw [if_neg (by simpa using ht)] at hgo2
        have Hgo := Lib.hid hgo2
        clear hgo hgo2 ht
        go_wp2_with (refine wpList_load_mid rfl 33 (.tmp 13) rfl g (o + k * 5) rfl _ _ cR' Try.underlying33 rfl hsz ?_; go_frame)
        go_roundw
        case rel => exact ⟨k + 1, acc, by omega, by omega, rfl, Hgo, hrowa, hown, hBa⟩
        case measure => simp [intOf]; omega
    · have d1 : decide ((k : Int) < (l.length : Int)) = false := decide_eq_false (by omega)
      have d1' : decide (k < l.length) = false := decide_eq_false hm
      have hend := hgo.out
      rw [List.drop_of_length_le (by omega), List.filter_nil, List.append_nil] at hend
      have Hend := Lib.hid hend
      clear hend hgo
      go_wp2
      go_ret
      exact ⟨_, rfl, by rw [Hend.out]; exact hrow, hown, hB⟩
set_option maxRecDepth 100000 in
set_option maxHeartbeats 2000000 in
theorem below_any (s : L.St) (n : Nat) (v : Value) (w : World) (h : FRead w v s.files) (hl : s.files.length ≤ 1000) :
    Calls Try.prog 35 #[stV s v, .int .i64 (n : Int)] w fun e w' => ∃ v', e = .returned v' ∧ FRow w' v' (L.deep s n) ∧ (v'.ownBlock = none ∨ ∃ k, w.heap.size ≤ k ∧ v'.ownBlock = some k) ∧ Below w.heap.size w w' := by
  obtain ⟨A, c, rfl, hcap, h⟩ := fread_open h
  have hat : L.deep s n = [] ++ (s.files.drop 0).filter (fun f => decide (n < f.lev)) := rfl
  obtain ⟨nx, lg, l⟩ := s
  dsimp only at h hcap hl hat
  generalize L.deep ⟨nx, lg, l⟩ n = R at *
  unfold stV
  dsimp only
  have hB0 := below_alloc1 w (.cells #[.int .i64 (nx : Int), .int .i64 (lg : Int), .slice A l.length c] 29)
  go_enter Try.func35, Try.ntmps35
  go_wp2
  go_loopw [5, 11] (fun u i wr => ∃ (k : Nat) (acc : List L.Fi), k ≤ l.length ∧ acc.length ≤ k ∧ i = .int .i64 (k : Int) ∧ Hid (R = acc ++ (l.drop k).filter (fun f => decide (n < f.lev))) ∧ FRow wr u acc ∧ (u.ownBlock = none ∨ ∃ k, w.heap.size ≤ k ∧ u.ownBlock = some k) ∧ Below w.heap.size w wr) (fun _ i _ => l.length - (intOf i).toNat)
  case atStart => exact ⟨0, [], Nat.zero_le _, by simp, rfl, Lib.hid hat, RowN.nil _ _ _, .inl rfl, hB0⟩
  case round =>
    clear hB0 hat
    obtain ⟨k, acc, hk, hacc, rfl, hgo, hrow, hown, hB⟩ := hrel
    have q0 : (0 : Int) ≤ (k : Int) := by omega
    by_cases hm : k < l.length
    · have d1 : decide ((k : Int) < (l.length : Int)) = true := decide_eq_true (by omega)
      have d1' : decide (k < l.length) = true := decide_eq_true hm
      have q1 : (k : Int) < (l.length : Int) := by omega
      obtain ⟨f, hf⟩ : ∃ f, l[k]? = some f := ⟨_, List.getElem?_eq_getElem hm⟩
      obtain ⟨g, o, rfl, hg, cR⟩ := fread_at (h.at_ hB) hf
      have hdr : l.drop k = f :: l.drop (k + 1) := by
        rw [List.drop_eq_getElem_cons hm]
        rw [List.getElem?_eq_getElem hm] at hf
        injection hf with hf
        rw [hf]
      have hgo2 := hgo.out
      rw [hdr, List.filter_cons] at hgo2
      have cR' : wr.rangeAt g (o + k * 5) [.int .i64 (f.num : Int), .int .i64 (f.lev : Int), .int .i64 (f.size : Int), .string ⟨f.first.toArray⟩, .string ⟨f.last.toArray⟩] := cR
      have hsz : (Try.prog.info? 33).map (·.size) = some [Value.int .i64 (f.num : Int), .int .i64 (f.lev : Int), .int .i64 (f.size : Int), .string ⟨f.first.toArray⟩, .string ⟨f.last.toArray⟩].length := size_fi
      have hw1 : IntKind.i64.wrap ((k : Int) + 1) = ((k + 1 : Nat) : Int) := by rw [IntWalk.i64_in _ (by omega)]; omega
      have hBa := hB.alloc hB.size (.cells #[.int .i64 (f.num : Int), .int .i64 (f.lev : Int), .int .i64 (f.size : Int), .string ⟨f.first.toArray⟩, .string ⟨f.last.toArray⟩] 33)
      have hrowa := hrow.alloc (.cells #[.int .i64 (f.num : Int), .int .i64 (f.lev : Int), .int .i64 (f.size : Int), .string ⟨f.first.toArray⟩, .string ⟨f.last.toArray⟩] 33)
      clear hdr cR hf hg
      by_cases ht : n < f.lev
      · have e1 : (decide ((n : Int) < (f.lev : Int))) = true := by exact decide_eq_true (by omega)
        have e1' : decide (n < f.lev) = true := decide_eq_true ht
        rw [if_pos (decide_eq_true ht)] at hgo2
        have Hgo := Lib.hid (show R = (acc ++ [f]) ++ (l.drop (k + 1)).filter (fun f => decide (n < f.lev)) by rw [hgo2]; simp)
        have hlm : ((acc.map fiC).length + 1) * 56 ≤ 140737488355328 := by rw [List.length_map]; omega
        clear hgo hgo2 ht
        go_wp2_with (first | (refine wpList_load_mid rfl 33 (.tmp 13) rfl g (o + k * 5) rfl _ _ cR' Try.underlying33 rfl hsz ?_; go_frame) | (at_builtin; refine wpList_append_rowN rfl info_fi (.tmp 19) (.tmp 21) 27 rfl Try.underlying27 rfl (RowN.alloc hrowa _) ⟨wr.heap.size + 1, 0, none⟩ 1 1 [fiC f] rfl rfl (len_fiC _) (new2 wr _ _ _ rfl _) (one_fiC _) hlm ?_; intro v3 w3 hrow3 hg3 hr3; have hBb := hBa.alloc hBa.size (.cells #[.int .i64 (f.num : Int), .int .i64 (f.lev : Int), .int .i64 (f.size : Int), .string ⟨f.first.toArray⟩, .string ⟨f.last.toArray⟩] 33); have hB3 := below_grown_own hBb hBb.size hg3 hown; have hown3 := own_later hown hBb.size hr3))
        go_roundw
        case rel => exact ⟨k + 1, acc ++ [f], by omega, by rw [List.length_append, List.length_singleton]; omega, rfl, Hgo, frow_snoc hrow3, hown3, hB3⟩
        case measure => simp [intOf]; omega
      · have e1 : (decide ((n : Int) < (f.lev : Int))) = false := by exact decide_eq_false (by omega)
        have e1' : decide (n < f.lev) = false := decide_eq_false ht
        rw [if_neg (by simpa using ht)] at hgo2
        have Hgo := Lib.hid hgo2
        clear hgo hgo2 ht
        go_wp2_with (refine wpList_load_mid rfl 33 (.tmp 13) rfl g (o + k * 5) rfl _ _ cR' Try.underlying33 rfl hsz ?_; go_frame)
        go_roundw
        case rel => exact ⟨k + 1, acc, by omega, by omega, rfl, Hgo, hrowa, hown, hBa⟩
        case measure => simp [intOf]; omega
    · have d1 : decide ((k : Int) < (l.length : Int)) = false := decide_eq_false (by omega)
      have d1' : decide (k < l.length) = false := decide_eq_false hm
      have hend := hgo.out
      rw [List.drop_of_length_le (by omega), List.filter_nil, List.append_nil] at hend
      have Hend := Lib.hid hend
      clear hend hgo
      go_wp2
      go_ret
      exact ⟨_, rfl, by rw [Hend.out]; exact hrow, hown, hB⟩
end Go.Proofs.Ytnfabofkfnmplaa
