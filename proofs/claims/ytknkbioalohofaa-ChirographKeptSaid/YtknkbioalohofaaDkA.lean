/- The walks of disk.New, good, deed. -/
import Derived.Test.YtknkbioalohofaaDkKit
namespace Go.Proofs.Ytknkbioalohofaa
open Go.RowKit Go.Maps Go.ChangeMaps Go.MapKept Go.WideMaps

theorem DkE.setDisk {B : Nat} {w w' : World} {p mb : Nat} {M : D.Dk} {Es : List D.Ent} (h : DkE B w p mb M Es) (ho : Only p w w') (M' : D.Dk) (hb : Blk w' p #[.int .i64 M'.room, .map (some mb), .int .i64 M'.fuse, .bool M'.dead] 126)
    (hf : M'.files = M.files) (hr : M'.room = M.room) (hu : -1 ≤ M'.fuse ∧ M'.fuse < 9223372036854775808) : DkE B w' p mb M' Es ∧ DStp B w w' := by
  have hblk := h.blk
  have ne : ∀ (i : Nat) (cs : Array Value) (t : TypeId) (fz : Nat × Nat), w.heap[i]? = some (.cells cs t fz) → t ≠ 126 → i ≠ p := by
    rintro i cs t fz hi ht rfl
    unfold Blk at hblk
    rw [hblk] at hi
    injection hi with hi
    injection hi with _ e
    exact ht e.symm
  obtain ⟨es, c, hm⟩ := h.map.isMap
  refine ⟨⟨hb, h.map.heap (ho.block mb ?_), h.eq.trans hf.symm, fun x hx => ?_, h.apart, h.names, h.baseP, h.baseM, by rw [hf]; exact h.few, by rw [hr]; exact h.room, hu⟩, DStp.only hblk (.inl rfl) ho h.baseP⟩
  · rintro rfl
    unfold Blk at hblk
    rw [hblk] at hm
    cases hm
  · obtain ⟨a1, a2, a3⟩ := h.held x hx
    refine ⟨a1, a2.heap fun i cs t fz hi ht => ho.block i (ne i cs t fz hi ?_), a3⟩
    rcases ht with ⟨rfl, _⟩ | rfl
    · decide
    · decide

set_option maxHeartbeats 1000000 in
theorem new_any (r : Int) (hr : -9223372036854775808 ≤ r ∧ r < 9223372036854775808) (w : World) :
    Calls Try.prog 37 #[.int .i64 r] w fun e w' => ∃ p, e = .returned (.pointer (some ⟨p, 0, none⟩)) ∧ DkAt w.heap.size w' p ⟨max r 0, -1, false, []⟩ ∧ Below w.heap.size w w' := by
  have hmm := @run_makeMap Try.prog
  go_enter Try.func37, Try.ntmps37
  go_wp2
  go_ret
  refine ⟨_, rfl, ⟨w.heap.size, [], ?_⟩, ?_⟩
  · have h0 : MapE ((w.alloc (.map #[] 0)).alloc (.cells #[.int .i64 (max r 0), .map (some w.heap.size), .int .i64 (-1), .bool false] 126)) w.heap.size [] :=
      World.ownsMap.alloc (World.ownsMap_made w _ _ _) _
    refine ⟨?_, h0, rfl, by simp, List.Pairwise.nil, List.Pairwise.nil, by omega, Nat.le_refl _, by simp, ⟨by show 0 ≤ max r 0; omega, by show max r 0 < _; omega⟩, ⟨by show (-1 : Int) ≤ -1; omega, by show (-1 : Int) < _; omega⟩⟩
    have b := Blk.new (w.alloc (.map #[] 0)) #[.int .i64 (max r 0), .map (some w.heap.size), .int .i64 (-1), .bool false] 126
    simp only [World.size_alloc] at b
    exact b
  · exact ((Below.refl _ w).alloc (Nat.le_refl _) _).alloc (by simp) _
set_option maxHeartbeats 1000000 in
theorem good_any (n : List UInt8) (w : World) : Calls Try.prog 76 #[.string ⟨n.toArray⟩] w fun e w' => e = .returned (.bool (D.good n)) ∧ w' = w := by
  have hz : (⟨n.toArray⟩ : ByteArray).size = n.length := by simp [ByteArray.size]
  have hg : D.good n = (!n.isEmpty && decide (n.length ≤ 100)) := rfl
  have hne : (⟨n.toArray⟩ : ByteArray).toList.isEmpty = n.isEmpty := by rw [str_list]
  have d1 : decide ((n.length : Int) ≤ 100) = decide (n.length ≤ 100) := by simp [decide_eq_decide]; omega
  generalize (⟨n.toArray⟩ : ByteArray) = S at *
  go_enter Try.func76, Try.ntmps76
  go_wp2
  all_goals go_ret
  all_goals refine ⟨?_, rfl⟩
  all_goals refine congrArg Ending.returned (congrArg Value.bool ?_)
  all_goals show _ = D.good n
  all_goals rw [hg]
  all_goals simp_all
set_option maxHeartbeats 1000000 in
theorem deed_dead {B : Nat} {w : World} {p mb : Nat} {M : D.Dk} {Es : List D.Ent} (h : DkE B w p mb M Es) (hd : M.dead = true) :
    Calls Try.prog 77 #[.pointer (some ⟨p, 0, none⟩)] w fun e w' => e = .returned (.tuple #[.bool false, .int .i64 10]) ∧ w' = w := by
  have c3 := h.blk.cellv (i := 3) rfl
  rw [hd] at c3
  clear h hd
  go_enter Try.func77, Try.ntmps77
  go_wp2
  go_ret2
  exact ⟨rfl, rfl⟩
set_option maxHeartbeats 1000000 in
theorem deed_live {B : Nat} {w : World} {p mb : Nat} {M : D.Dk} {Es : List D.Ent} (h : DkE B w p mb M Es) (hd : M.dead = false) :
    Calls Try.prog 77 #[.pointer (some ⟨p, 0, none⟩)] w fun e w' => e = .returned (.tuple #[.bool true, .int .i64 ((D.deed M).2 : Int)]) ∧ DkE B w' p mb (D.deed M).1 Es ∧ DStp B w w' := by
  have hb := h.blk
  have c2 := hb.cellv (i := 2) rfl
  have c3 := hb.cellv (i := 3) rfl
  have f2 := hb.free 2
  have f3 := hb.free 3
  rw [hd] at c3
  have hu := h.fuse
  by_cases h0 : M.fuse = 0
  · have hD : D.deed M = ({ M with dead := true }, 10) := by unfold D.deed; rw [if_pos h0]
    rw [h0] at c2
    have key := DkE.setDisk h (Only.setCell w p 3 (.bool true)) { M with dead := true } (hb.set_ 3 (.bool true)) rfl rfl hu
    rw [hD]
    generalize DkE B = Q at *
    go_enter Try.func77, Try.ntmps77
    go_wp2
    go_ret2
    exact ⟨rfl, key⟩
  · by_cases h1 : 0 < M.fuse
    · have hD : D.deed M = ({ M with fuse := M.fuse - 1 }, 0) := by unfold D.deed; rw [if_neg h0, if_pos h1]
      have key := DkE.setDisk h (Only.setCell w p 2 (.int .i64 (M.fuse - 1))) { M with fuse := M.fuse - 1 } (hb.set_ 2 (.int .i64 (M.fuse - 1))) rfl rfl ⟨by show -1 ≤ M.fuse - 1; omega, by show M.fuse - 1 < _; omega⟩
      rw [hD]
      have d0 : (M.fuse == 0) = false := by rw [beq_eq_false_iff_ne]; exact h0
      have d1 : decide (0 < M.fuse) = true := by simpa using h1
      have hw : IntKind.i64.wrap (M.fuse - 1) = M.fuse - 1 := IntWalk.i64_in _ (by omega)
      generalize M.fuse = y at *
      go_enter Try.func77, Try.ntmps77
      go_wp2
      go_ret2
      exact ⟨rfl, key⟩
    · have hD : D.deed M = (M, 0) := by unfold D.deed; rw [if_neg h0, if_neg h1]
      rw [hD]
      have d0 : (M.fuse == 0) = false := by rw [beq_eq_false_iff_ne]; exact h0
      have d1 : decide (0 < M.fuse) = false := by simpa using h1
      generalize M.fuse = y at *
      go_enter Try.func77, Try.ntmps77
      go_wp2
      go_ret2
      exact ⟨rfl, h, DStp.refl _ _⟩
end Go.Proofs.Ytknkbioalohofaa
