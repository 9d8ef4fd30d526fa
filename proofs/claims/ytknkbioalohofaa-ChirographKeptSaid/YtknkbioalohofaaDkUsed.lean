/- The walk of disk.Used: a range over the map, in whatever order. -/
import Derived.Test.YtknkbioalohofaaDkA
import Derived.Sort.KeysCollected
namespace Go.Proofs.Ytknkbioalohofaa
open Go.RowKit Go.Maps Go.ChangeMaps Go.MapKept Go.WideMaps

namespace D
def lenOf (l : List Ent) (n : List UInt8) : Nat := match fnd kE n l with
  | some x => x.1.b.length
  | none => 0
def sumOf (l : List Ent) (ss : List (List UInt8)) : Nat := (ss.map (lenOf l)).sum
theorem lenOf_le (l : List Ent) (n : List UInt8) : lenOf l n ≤ used (l.map Prod.fst) := by
  unfold lenOf
  split
  · rename_i x hx
    exact used_mem (List.mem_map_of_mem (fnd_mem kE hx).1)
  · exact Nat.zero_le _
theorem sumOf_le (l : List Ent) : ∀ ss : List (List UInt8), sumOf l ss ≤ ss.length * used (l.map Prod.fst)
  | [] => by simp [sumOf]
  | s :: r => by
    have h1 := lenOf_le l s
    have h2 := sumOf_le l r
    unfold sumOf at h2 ⊢
    rw [List.map_cons, List.sum_cons, List.length_cons, Nat.succ_mul]
    omega
theorem sumOf_snoc (l : List Ent) (ss : List (List UInt8)) (x : List UInt8) : sumOf l (ss ++ [x]) = sumOf l ss + lenOf l x := by simp [sumOf]
theorem fnd_of_mem {l : List Ent} (hn : l.Pairwise fun x y => x.1.name ≠ y.1.name) : ∀ x ∈ l, fnd kE x.1.name l = some x := by
  induction l with
  | nil => intro x hx; cases hx
  | cons y r ih =>
    rw [List.pairwise_cons] at hn
    intro x hx
    rw [fnd_cons]
    rcases List.mem_cons.1 hx with rfl | hx
    · rw [if_pos (by simp [kE])]
    · have : (kE y == x.1.name) = false := by rw [beq_eq_false_iff_ne]; exact hn.1 x hx
      rw [this]
      exact ih hn.2 x hx
theorem sumOf_names {l : List Ent} (hn : l.Pairwise fun x y => x.1.name ≠ y.1.name) : sumOf l (l.map kE) = used (l.map Prod.fst) := by
  unfold sumOf used
  rw [List.map_map, List.map_map]
  congr 1
  apply List.map_congr_left
  intro x hx
  show lenOf l x.1.name = x.1.b.length
  unfold lenOf
  rw [fnd_of_mem hn x hx]
theorem strKeys_datum (l : List Ent) : strKeys (datum l) = l.map kE := by
  show (l.map ent).map (fun p => strOf p.1) = _
  rw [List.map_map]
  rfl
/-- What a key's element is. -/
theorem datum_hit {l : List Ent} {n : List UInt8} {y : DataW Unit} (h : ∀ zd, (datum l).atKey (.string n) zd = y) : ∃ x, fnd kE n l = some x ∧ y = .lit (.int .i64 (x.2 : Int)) := by
  have h1 := h (.lit (.bool true))
  have h2 := h (.lit (.bool false))
  rw [datum_at] at h1 h2
  cases hf : fnd kE n l with
  | some x => rw [hf] at h1; exact ⟨x, rfl, h1.symm⟩
  | none =>
    rw [hf] at h1 h2
    have e : (DataW.lit (.bool true) : DataW Unit) = .lit (.bool false) := h1.trans h2.symm
    injection e with e
    injection e with e
    cases e
end D

set_option maxRecDepth 100000 in
set_option maxHeartbeats 2000000 in
theorem used_any {B : Nat} {w : World} {p mb : Nat} {M : D.Dk} {Es : List D.Ent} (h : DkE B w p mb M Es) (hu : D.used M.files ≤ 1099511627776) :
    Calls Try.prog 46 #[.pointer (some ⟨p, 0, none⟩)] w fun e w' => e = .returned (.int .i64 (D.used M.files : Int)) ∧ Below w.heap.size w w' := by
  have c1 := h.blk.cellv (i := 1) rfl
  have hmap := h.map
  have hfew : Es.length ≤ 4096 := by rw [h.len]; exact h.few
  have hU : D.used M.files = D.sumOf Es (Es.map D.kE) := by rw [D.sumOf_names h.names, h.eq]
  have hsum : ∀ ss : List (List UInt8), ss.length ≤ 4096 → D.sumOf Es ss ≤ 4503599627370496 := fun ss hs => by
    have h1 := D.sumOf_le Es ss
    rw [h.eq] at h1
    have h2 := Nat.mul_le_mul hs hu
    omega
  have heldAll := h.held
  have hmlt := h.map.lt
  rw [hU]
  clear hu hU
  go_enter Try.func46, Try.ntmps46
  go_wp2_with (first | (at_range; refine wpList_range_own _ rfl _ 124 rfl 9 127 lawK Try.underlying124 _ mb _ _ rfl hmap ?_; intro w0 hrg0 hg0 hs0))
  go_frame
  go_loopw [3] (fun v wr => ∃ (left : Lit → Bool) (cnt : Nat) (ss : List (List UInt8)), v = .int .i64 (D.sumOf Es ss : Int) ∧ wr.ranges Try.prog 9 ptrElem mb w.heap.size Es.length (D.datum Es) left cnt ∧ ss.length + cnt ≤ Es.length ∧ Collected (D.datum Es) left ss ∧ Below w.heap.size w wr)
    (fun _ wr => wr.rangeLeft mb w.heap.size)
  case atStart => exact ⟨_, _, [], rfl, hrg0, by rw [D.datum_size]; simp, Collected.start _, (Below.refl _ _).grown hg0 (Nat.le_refl _) (fun j hj => by cases hj)⟩
  case round =>
    obtain ⟨left, cnt, ss, rfl, hrg, hcs, hC, hnx⟩ := hrel
    go_wp2_with (first | (at_next; refine wpList_next_ranges _ rfl _ rfl 9 lawK ptrElem encStr ptrO (fun key kl hk => by obtain ⟨x, hx, _⟩ := Maps.keyOf_str Try.underlying9 hk; exact ⟨x, hx⟩) (fun v y hv => by obtain ⟨c, hc, _⟩ := ptrElem_inv hv; exact ⟨c, hc⟩) mb w.heap.size Es.length _ _ _ rfl hrg ?_ ?_))
    · intro hc0 hl0
      have hp := hC.perm hrg.owns lawK Try.underlying9 hl0
      rw [D.strKeys_datum] at hp
      have hfin : D.sumOf Es ss = D.sumOf Es (Es.map D.kE) := (hp.map _).sum_nat
      have Hfin := Lib.hid hfin
      clear hp hrg heldAll hC hsum hfin
      go_wp2
      go_ret
      exact ⟨by rw [← Hfin.out]; rfl, hnx⟩
    · intro x c kl yd yp w2 cnt2 hkey hlk hv hat hrg2 hlt hg2 hs2 hen
      obtain ⟨x', ex, rfl, _⟩ := Maps.keyOf_str Try.underlying9 hkey
      obtain rfl : x = x' := encStr_inj ex
      obtain ⟨e, hf, hy⟩ := D.datum_hit hat
      have hc : ptrO c = .pointer (some ⟨e.2, 0, none⟩) := ptrElem_some (by rw [hv, hy])
      rw [hc] at hen
      obtain ⟨hB, ⟨v, hblk, hbuf⟩, -, -⟩ := heldAll e (D.fnd_mem _ hf).1
      have hnx2 : Below w.heap.size w w2 := hnx.grown hg2 hnx.size (fun j hj => by cases hj; exact Nat.le_refl _)
      have hblk2 := hblk.below hnx2 hblk.lt
      have hbuf2 := hbuf.at_ hnx2
      have c0 := hblk2.cellv (i := 0) rfl
      have hlen1 : D.lenOf Es x = e.1.b.length := by unfold D.lenOf; rw [hf]
      have hw1 : IntKind.i64.wrap ((D.sumOf Es ss : Int) + (e.1.b.length : Int)) = ((D.sumOf Es (ss ++ [x]) : Nat) : Int) := by
        have h1 := hsum ss (by omega)
        have h2 := hsum (ss ++ [x]) (by rw [List.length_append]; simp; omega)
        rw [D.sumOf_snoc, hlen1] at h2 ⊢
        rw [IntWalk.i64_in _ (by omega)]
        omega
      have hss : (ss ++ [x]).length + cnt2 ≤ Es.length := by rw [List.length_append]; simp; omega
      have hC2 := hC.step hlk hat
      have hm : wr.rangeLeft mb w.heap.size = cnt := hrg.left_eq
      clear hs2 hrg hkey hlk hv hat hC hbuf hblk hlen1 hf hy hsum heldAll
      rcases hbuf2.2 with ⟨rfl, h0⟩ | ⟨g, cap, cur, rfl, _, hh, _⟩
      · rw [h0, show ((0 : Nat) : Int) = 0 from rfl, Int.add_zero] at hw1
        go_wp2
        go_roundw
        case rel => exact ⟨_, cnt2, ss ++ [x], rfl, hrg2, hss, hC2, hnx2⟩
        case measure => rw [hrg2.left_eq, hm]; exact hlt
      · go_wp2
        go_roundw
        case rel => exact ⟨_, cnt2, ss ++ [x], rfl, hrg2, hss, hC2, hnx2⟩
        case measure => rw [hrg2.left_eq, hm]; exact hlt
end Go.Proofs.Ytknkbioalohofaa
