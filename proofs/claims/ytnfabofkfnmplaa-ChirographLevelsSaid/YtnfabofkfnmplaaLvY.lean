/- The walk of Rising. -/
import Derived.Test.YtnfabofkfnmplaaLvX
namespace Go.Proofs.Ytnfabofkfnmplaa
open Go.RowKit

namespace L
def riseOk (acc : List En) (x : En) : Bool := match acc.getLast? with | none => true | some y => B y.key x.key
def risGo : List En → List En → List En
  | acc, [] => acc
  | acc, x :: r => if riseOk acc x = true then risGo (acc ++ [x]) r else risGo acc r
def rising (l : List En) (n : Nat) : List En := risGo [] (few l n)
theorem risGo_up : ∀ (r acc : List En), Up acc → Up (risGo acc r)
  | [], _, h => h
  | x :: r, acc, h => by
    unfold risGo
    split
    · rename_i hc
      refine risGo_up r _ ?_
      refine List.pairwise_append.2 ⟨h, by simp, fun a ha b hb => ?_⟩
      rw [List.mem_singleton.1 hb]
      cases hl : acc.getLast? with
      | none => rw [List.getLast?_eq_none_iff.1 hl] at ha; cases ha
      | some y =>
        unfold riseOk at hc
        rw [hl] at hc
        have hc : B y.key x.key = true := hc
        obtain ⟨a', rfl⟩ := List.getLast?_eq_some_iff.1 hl
        rcases List.mem_append.1 ha with h1 | h1
        · exact B_tr ((List.pairwise_append.1 h).2.2 a h1 y (by simp)) hc
        · rw [List.mem_singleton.1 h1]; exact hc
    · exact risGo_up r acc h
theorem rising_up (l : List En) (n : Nat) : Up (rising l n) := risGo_up _ [] List.Pairwise.nil
theorem risGo_len : ∀ (r acc : List En), (risGo acc r).length ≤ acc.length + r.length
  | [], acc => by simp [risGo]
  | x :: r, acc => by
    unfold risGo
    split
    · have := risGo_len r (acc ++ [x])
      rw [List.length_append, List.length_singleton] at this
      rw [List.length_cons]; omega
    · have := risGo_len r acc
      rw [List.length_cons]; omega
theorem rising_len (l : List En) (n : Nat) : (rising l n).length ≤ n := by
  have h1 := risGo_len (few l n) []
  have h2 : (few l n).length ≤ n := by unfold few; rw [List.length_map, List.length_take]; omega
  unfold rising
  simp at h1
  omega
end L
/-- A row that lies in another block than the slice that grows still does. -/
theorem apart_later {u v3 x : Value} {n : Nat} (hd : ∀ g, x.ownBlock = some g → u.ownBlock ≠ some g) (hlt : ∀ g, x.ownBlock = some g → g < n) (hr : v3.ownBlock = u.ownBlock ∨ ∃ g, n ≤ g ∧ v3.ownBlock = some g) : ∀ g, x.ownBlock = some g → v3.ownBlock ≠ some g := by
  intro g hg hc
  rcases hr with e | ⟨k, hk, e⟩
  · rw [e] at hc; exact hd g hg hc
  · rw [e] at hc; injection hc with hc; have := hlt g hg; omega
theorem apart_new {a x : Value} {n : Nat} (ha : a.ownBlock = some n) (ho : x.ownBlock = none ∨ ∃ k, n + 1 ≤ k ∧ x.ownBlock = some k) : ∀ g, x.ownBlock = some g → a.ownBlock ≠ some g := by
  intro g hg hc
  rw [ha] at hc
  injection hc with hc
  rcases ho with e | ⟨k, hk, e⟩
  · rw [e] at hg; cases hg
  · rw [e] at hg; injection hg with hg; omega
set_option maxRecDepth 100000 in
set_option maxHeartbeats 4000000 in
theorem rising_any (l : List L.En) (v : Value) (n : Nat) (w : World) (h : ERead w v l) (hn : n ≤ 100) :
    Calls Try.prog 5 #[v, .int .i64 (n : Int)] w fun e w' => ∃ v', e = .returned v' ∧ ERow w' v' (L.rising l n) ∧ (v'.ownBlock = none ∨ ∃ k, w.heap.size ≤ k ∧ v'.ownBlock = some k) ∧ Below w.heap.size w w' := by
  have r0 : ERow (w.alloc (.cells #[] 26)) (.slice (some ⟨w.heap.size, 0, none⟩) 0 0) [] := RowN.build w _ 3 [] #[] 0 rfl (by simp) rfl (by omega)
  have hb0 := below_alloc1 w (.cells #[] 26)
  have FW := Lib.hid (few_any l v n (w.alloc (.cells #[] 26)) (h.at_ hb0) hn)
  have hfl : (L.few l n).length ≤ 100 := by unfold L.few; rw [List.length_map, List.length_take]; omega
  have hR0 : L.rising l n = L.risGo [] ((L.few l n).drop 0) := rfl
  generalize L.rising l n = R at *
  generalize L.few l n = fs at *
  clear h
  go_enter Try.func5, Try.ntmps5
  go_wp2_with (go_at_call 12; refine FW.out.mono ?_; rintro e w1 ⟨vf, rfl, hrf, hof, hb1⟩; obtain ⟨A, m, c, rfl, hm, hrf⟩ := erow_open hrf; replace hm := Lib.hid hm; have hdj : ∀ g, (Value.slice A m c).ownBlock = some g → (Value.slice (some ⟨w.heap.size, 0, none⟩) 0 0).ownBlock ≠ some g := apart_new rfl (by rw [World.size_alloc] at hof; exact hof); have hB1 := hb0.trans (hb1.mono hb0.size); have r1 := ERow.at_ r0 hb1)
  have hrd := hrf
  clear hrf r0 FW hof
  have hm100 : m ≤ 100 := by rw [hm.out]; exact hfl
  go_loopw [5, 13] (fun u i wr => ∃ (k : Nat) (acc : List L.En), k ≤ m ∧ acc.length ≤ k ∧ i = .int .i64 (k : Int) ∧ Hid (R = L.risGo acc (fs.drop k)) ∧ ERow wr u acc ∧ (u.ownBlock = none ∨ ∃ k, w.heap.size ≤ k ∧ u.ownBlock = some k) ∧ ERow wr (.slice A m c) fs ∧ (∀ g, (Value.slice A m c).ownBlock = some g → u.ownBlock ≠ some g) ∧ Below w.heap.size w wr) (fun _ i _ => m - (intOf i).toNat)
  case atStart => exact ⟨0, [], Nat.zero_le _, by simp, rfl, Lib.hid hR0, r1, .inr ⟨_, Nat.le_refl _, rfl⟩, hrd, hdj, hB1⟩
  case round =>
    clear r1 hrd hB1 hb0 hb1 hR0 hdj
    obtain ⟨k, acc, hk, hacc, rfl, hgo, hrow, hown, hrd, hdj0, hB⟩ := hrel
    have hdj := Lib.hid hdj0
    clear hdj0
    obtain ⟨A5, m5, c5, rfl, hm5, hrow⟩ := erow_open hrow
    have hm5b : m5 ≤ 100 := by rw [hm5]; omega
    replace hm5 := Lib.hid hm5
    have q0 : (0 : Int) ≤ (k : Int) := by omega
    by_cases hlt : k < m
    · have d1 : decide ((k : Int) < (m : Int)) = true := decide_eq_true (by omega)
      have d1' : decide (k < m) = true := decide_eq_true hlt
      have q1 : (k : Int) < (m : Int) := by omega
      have hw1 : IntKind.i64.wrap ((k : Int) + 1) = ((k + 1 : Nat) : Int) := by rw [IntWalk.i64_in _ (by omega)]; omega
      obtain ⟨⟨ky, vy, gy⟩, hy⟩ : ∃ f, fs[k]? = some f := ⟨_, List.getElem?_eq_getElem (by have := hm.out; omega)⟩
      obtain ⟨g, o, hAe, hg, cR⟩ := eread_at hrd.reads hy
      have hdr : fs.drop k = (⟨ky, vy, gy⟩ : L.En) :: fs.drop (k + 1) := by
        obtain ⟨h1, h2⟩ := List.getElem?_eq_some_iff.1 hy
        rw [← h2]
        exact List.drop_eq_getElem_cons h1
      have hgo2 := hgo.out
      rw [hdr] at hgo2
      have cR' : wr.rangeAt g (o + k * 3) [.string ⟨ky.toArray⟩, .string ⟨vy.toArray⟩, .bool gy] := cR
      have hsz : (Try.prog.info? 26).map (·.size) = some [Value.string ⟨ky.toArray⟩, .string ⟨vy.toArray⟩, .bool gy].length := size_en
      have hrow1 := hrow.alloc (.cells #[.string ⟨ky.toArray⟩, .string ⟨vy.toArray⟩, .bool gy] 26)
      have hrd1 := hrd.at_ (below_alloc1 wr (.cells #[.string ⟨ky.toArray⟩, .string ⟨vy.toArray⟩, .bool gy] 26))
      have X1 := Blk.new wr #[.string ⟨ky.toArray⟩, .string ⟨vy.toArray⟩, .bool gy] 26
      have hB1 := hB.alloc hB.size (.cells #[.string ⟨ky.toArray⟩, .string ⟨vy.toArray⟩, .bool gy] 26)
      have hk1 := Lib.hid (show k + 1 ≤ m by omega)
      have hlm : ((acc.map enC).length + 1) * 40 ≤ 140737488355328 := by (rw [List.length_map]; exact Nat.le_trans (Nat.mul_le_mul_right 40 (Nat.succ_le_succ (show acc.length ≤ 100 by omega))) (by decide))
      subst hAe
      clear hgo hdr cR hy
      go_upto_region 5 with (refine wpList_load_mid rfl 26 (.tmp 15) rfl g (o + k * 3) rfl _ _ cR' Try.underlying26 rfl hsz ?_; go_frame)
      refine wp_world fun W1 hW1 => ?_
      rw [← hW1] at hrow1 X1 hB1 hrd1
      clear hW1 cR' hsz d1 d1' q1 hB hrow hrd hg
      obtain ⟨y0, y1, y2, -, -, -⟩ := free3 X1
      have ey := RowN.alloc hrow1 (.cells #[.string ⟨ky.toArray⟩, .string ⟨vy.toArray⟩, .bool gy] 26)
      have hrd2 := hrd1.at_ (below_alloc1 W1 (.cells #[.string ⟨ky.toArray⟩, .string ⟨vy.toArray⟩, .bool gy] 26))
      have hBy := hB1.alloc hB1.size (.cells #[.string ⟨ky.toArray⟩, .string ⟨vy.toArray⟩, .bool gy] 26)
      have hgo3 : R = if L.riseOk acc ⟨ky, vy, gy⟩ = true then L.risGo (acc ++ [⟨ky, vy, gy⟩]) (fs.drop (k + 1)) else L.risGo acc (fs.drop (k + 1)) := hgo2
      have hkeep := hown
      by_cases he : acc = []
      · have d5 : ((m5 : Int) == 0) = true := by rw [hm5.out, he]; rfl
        have hok : L.riseOk acc ⟨ky, vy, gy⟩ = true := by rw [he]; rfl
        rw [if_pos hok] at hgo3
        have Hgo := Lib.hid hgo3
        clear hgo2 hgo3 he hok
        go_quiet (fail)
        go_upto_region 6 with (fail)
        refine wp_world fun W2 hW2 => ?_
        have Hw2 : ∃ nq, W2 = W1.drewN nq := ⟨_, hW2⟩
        clear hW2
        obtain ⟨nq, hW2⟩ := Hw2
        have hb2 : Below W1.heap.size W1 W2 := by rw [hW2]; exact below_drewN (Below.refl _ _) nq
        have hB2 := hB1.trans (hb2.mono hB1.size)
        have hr2 := ERow.at_ hrow1 hb2
        have hd2 := hrd1.at_ hb2
        have hdf2 := RowN.alloc hd2 (.cells #[.string ⟨ky.toArray⟩, .string ⟨vy.toArray⟩, .bool gy] 26)
        obtain ⟨v0, v1, v2, -, -, -⟩ := free3 (X1.at_ hb2)
        have ey2 := RowN.alloc hr2 (.cells #[.string ⟨ky.toArray⟩, .string ⟨vy.toArray⟩, .bool gy] 26)
        have hBy2 := hB2.alloc hB2.size (.cells #[.string ⟨ky.toArray⟩, .string ⟨vy.toArray⟩, .bool gy] 26)
        have qy := new_cellsN W2 (enC ⟨ky, vy, gy⟩) _ rfl 26
        have oy := one_enC ⟨ky, vy, gy⟩
        clear hW2 hb2 hB1 hrow1 hrd1 X1 ey hrd2 hBy y0 y1 y2
        go_wp2_with (at_builtin; refine wpList_append_rowN rfl info_en (.tmp 32) (.tmp 34) 23 rfl und_en rfl ey2 ⟨W2.heap.size, 0, none⟩ 1 1 [enC ⟨ky, vy, gy⟩] rfl rfl (len_enC _) qy oy hlm ?_; intro v3 w3 hrow3 hg3 hr3; have hB3 := below_grown_own hBy2 hBy2.size hg3 hkeep; have hown3 := own_later hkeep hBy2.size hr3)
        have hf3 := RowN.grown hdf2 hg3 hdj.out
        have hdj3 := apart_later hdj.out (fun _ hg => RowN.lt hdf2 hg) hr3
        clear hdf2 hd2
        go_roundw
        case rel => exact ⟨k + 1, acc ++ [⟨ky, vy, gy⟩], hk1.out, by rw [List.length_append, List.length_singleton]; exact Nat.succ_le_succ hacc, rfl, Hgo, erow_snoc hrow3, hown3, hf3, hdj3, hB3⟩
        case measure => simp [intOf]; have := hk1.out; omega
      · have hpos : 0 < m5 := by rw [hm5.out]; exact List.length_pos_iff.2 he
        have d5 : ((m5 : Int) == 0) = false := by rw [beq_eq_false_iff_ne]; omega
        obtain ⟨p, hp⟩ : ∃ p, m5 = p + 1 := ⟨m5 - 1, by omega⟩
        have hwm : IntKind.i64.wrap ((m5 : Int) - 1) = (p : Int) := by rw [IntWalk.i64_in _ (by omega)]; omega
        have p0 : (0 : Int) ≤ (p : Int) := by omega
        have p1 : (p : Int) < (m5 : Int) := by omega
        obtain ⟨z, hz⟩ : ∃ z, acc[p]? = some z := ⟨_, List.getElem?_eq_getElem (by have := hm5.out; omega)⟩
        have hzl : acc.getLast? = some z := by
          rw [List.getLast?_eq_getElem?, ← hm5.out, hp]
          exact hz
        obtain ⟨ga, hA5⟩ : ∃ ga, A5 = some ⟨ga, 0, none⟩ := by
          rcases RowN.form hrow1 with ⟨_, e⟩ | ⟨ga, cap, e, _⟩
          · exact absurd (List.map_eq_nil_iff.1 e) he
          · injection e with e1 _ _
            exact ⟨ga, e1⟩
        subst hA5
        have z0 : W1.cell? ⟨ga, p * 3, none⟩ = some (.string ⟨z.key.toArray⟩) := RowN.get hrow1 rfl (k := p) (x := enC z) (by rw [List.getElem?_map, hz]; rfl) 0 _ rfl
        have hlb : Op.bytesLess z.key ky = L.B z.key ky := L.less_before _ _
        have hok : L.riseOk acc ⟨ky, vy, gy⟩ = L.B z.key ky := by unfold L.riseOk; rw [hzl]
        rw [hok] at hgo3
        replace hp := Lib.hid hp
        clear hgo2 he hok hzl hz hpos
        generalize z.key = kz at *
        cases hbz : L.B kz ky with
        | true =>
          rw [hbz] at hlb hgo3
          rw [if_pos rfl] at hgo3
          have Hgo := Lib.hid hgo3
          clear hgo3 hbz
          go_quiet (fail)
          go_upto_region 6 with (fail)
          refine wp_world fun W2 hW2 => ?_
          have Hw2 : ∃ nq, W2 = W1.drewN nq := ⟨_, hW2⟩
          clear hW2
          obtain ⟨nq, hW2⟩ := Hw2
          have hb2 : Below W1.heap.size W1 W2 := by rw [hW2]; exact below_drewN (Below.refl _ _) nq
          have hB2 := hB1.trans (hb2.mono hB1.size)
          have hr2 := ERow.at_ hrow1 hb2
          have hd2 := hrd1.at_ hb2
          have hdf2 := RowN.alloc hd2 (.cells #[.string ⟨ky.toArray⟩, .string ⟨vy.toArray⟩, .bool gy] 26)
          obtain ⟨v0, v1, v2, -, -, -⟩ := free3 (X1.at_ hb2)
          have ey2 := RowN.alloc hr2 (.cells #[.string ⟨ky.toArray⟩, .string ⟨vy.toArray⟩, .bool gy] 26)
          have hBy2 := hB2.alloc hB2.size (.cells #[.string ⟨ky.toArray⟩, .string ⟨vy.toArray⟩, .bool gy] 26)
          have qy := new_cellsN W2 (enC ⟨ky, vy, gy⟩) _ rfl 26
          have oy := one_enC ⟨ky, vy, gy⟩
          clear hW2 hb2 hB1 hrow1 hrd1 X1 ey hrd2 hBy y0 y1 y2
          go_wp2_with (at_builtin; refine wpList_append_rowN rfl info_en (.tmp 32) (.tmp 34) 23 rfl und_en rfl ey2 ⟨W2.heap.size, 0, none⟩ 1 1 [enC ⟨ky, vy, gy⟩] rfl rfl (len_enC _) qy oy hlm ?_; intro v3 w3 hrow3 hg3 hr3; have hB3 := below_grown_own hBy2 hBy2.size hg3 hkeep; have hown3 := own_later hkeep hBy2.size hr3)
          have hf3 := RowN.grown hdf2 hg3 hdj.out
          have hdj3 := apart_later hdj.out (fun _ hg => RowN.lt hdf2 hg) hr3
          clear hdf2 hd2
          go_roundw
          case rel => exact ⟨k + 1, acc ++ [⟨ky, vy, gy⟩], hk1.out, by rw [List.length_append, List.length_singleton]; exact Nat.succ_le_succ hacc, rfl, Hgo, erow_snoc hrow3, hown3, hf3, hdj3, hB3⟩
          case measure => simp [intOf]; have := hk1.out; omega
        | false =>
          rw [hbz] at hlb hgo3
          rw [if_neg (by simp)] at hgo3
          have Hgo := Lib.hid hgo3
          clear hgo3 hbz
          go_quiet (fail)
          go_wp2
          go_roundw
          case rel => exact ⟨k + 1, acc, hk1.out, by omega, rfl, Hgo, RowN.drewN hrow1 _, hkeep, hrd1.at_ (below_drewN (Below.refl _ _) _), hdj.out, below_drewN hB1 _⟩
          case measure => simp [intOf]; have := hk1.out; omega
    · have d1 : decide ((k : Int) < (m : Int)) = false := decide_eq_false (by omega)
      have d1' : decide (k < m) = false := decide_eq_false hlt
      have hend := hgo.out
      rw [List.drop_of_length_le (by have := hm.out; omega)] at hend
      have Hend := Lib.hid (show R = acc from hend)
      clear hend hgo
      go_wp2
      go_ret
      exact ⟨_, rfl, by rw [Hend.out]; exact hrow, hown, hB⟩
end Go.Proofs.Ytnfabofkfnmplaa
