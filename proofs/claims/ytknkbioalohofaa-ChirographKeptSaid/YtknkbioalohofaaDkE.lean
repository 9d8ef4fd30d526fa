/- slices.Clone at bytes; the disk's List; names that rise are sorted. -/
import Derived.Test.YtknkbioalohofaaDkD
import Derived.Test.YtknkbioalohofaaDkShelf
import Derived.Test.YtknkbioalohofaaKit8
namespace Go.Proofs.Ytknkbioalohofaa
open Go.RowKit Go.Maps Go.ChangeMaps Go.MapKept Go.WideMaps Go.Sort Go.Shelf

theorem clone_cells {w : World} (g cap : Nat) (xs : List UInt8) (hl : xs.length ≤ 140737488355328) (hc : ∀ j u, (xs.map byteV)[j]? = some u → w.cell? ⟨g, 0 + j, none⟩ = some u) :
    Calls Try.prog 78 #[.slice (some ⟨g, 0, none⟩) xs.length cap] w fun e w' => ∃ v', e = .returned v' ∧ Buf w' v' xs ∧ (v'.ownBlock = none ∨ ∃ k, w.heap.size ≤ k ∧ v'.ownBlock = some k) ∧ Below w.heap.size w w' := by
  obtain ⟨i0, hi, hz0, hz1, hz2⟩ := info_parts info_u8
  refine (AnyE.slices_Clone Try.clone78 i0 (.int .u8 0) 1 1 hi hz0 hz1 hz2 rfl (by omega) (fun w => by kernel_rfl) g 0 xs.length cap (xs.map byteV) w (by rw [List.length_map]; omega) (Nat.le_trans hl (by decide)) (by omega) hc (bytes_one xs)).mono ?_
  rintro e w' ⟨v', rfl, h1, -, h3⟩
  exact ⟨v', rfl, owns_zero h1, own_of_base h1, h3⟩
theorem clone_buf {w : World} {v : Value} {xs : List UInt8} (h : Buf w v xs) (hl : xs.length ≤ 140737488355328) :
    Calls Try.prog 78 #[v] w fun e w' => ∃ v', e = .returned v' ∧ Buf w' v' xs ∧ (v'.ownBlock = none ∨ ∃ k, w.heap.size ≤ k ∧ v'.ownBlock = some k) ∧ Below w.heap.size w w' := by
  rcases h.2 with ⟨rfl, h0⟩ | ⟨g, cap, cur, rfl, h2⟩
  · obtain rfl := List.eq_nil_of_length_eq_zero h0
    refine (AnyE.slices_Clone_nil Try.clone78 0 0 w).mono ?_
    rintro e w' ⟨rfl, rfl⟩
    exact ⟨_, rfl, Buf.nil _, .inl rfl, Below.refl _ _⟩
  · exact clone_cells g cap xs hl fun j u hj => by
      have := h.cells rfl j u hj
      rwa [Addr.add_mid] at this
theorem lt_of_before : ∀ {a b : List UInt8}, bytesBefore a b = true → a < b
  | [], [], h => by cases h
  | [], _ :: _, _ => List.nil_lt_cons _ _
  | _ :: _, [], h => by cases h
  | x :: a, y :: b, h => by
    unfold bytesBefore at h
    rw [Bool.or_eq_true, Bool.and_eq_true, decide_eq_true_eq, beq_iff_eq] at h
    rw [List.cons_lt_cons_iff]
    rcases h with h | ⟨h1, h2⟩
    · exact .inl h
    · exact .inr ⟨h1, lt_of_before h2⟩
/-- The names of a disk's files rise. -/
theorem DkE.rise {B : Nat} {w : World} {p mb : Nat} {M : D.Dk} {Es : List D.Ent} (h : DkE B w p mb M Es) : (Es.map D.kE).Pairwise (· < ·) := by
  obtain ⟨es, he, hr, _⟩ := World.ownsMap.canon h.map lawK
  have e : Es.map D.ent = es := by injection he
  subst e
  rw [List.pairwise_map] at hr ⊢
  exact hr.imp fun {a b} hab => lt_of_before hab
theorem sorted_of_rise {l : List (List UInt8)} (h : l.Pairwise (· < ·)) : l.mergeSort (fun x y => decide (x ≤ y)) = l := by
  refine List.mergeSort_of_pairwise (h.imp fun {a b} hab => ?_)
  exact decide_eq_true (List.le_of_lt hab)
theorem keys_sorted {B : Nat} {w : World} {p mb : Nat} {M : D.Dk} {Es : List D.Ent} (h : DkE B w p mb M Es) {ss : List (List UInt8)} (hp : ss.Perm (strKeys (D.datum Es))) : ss.mergeSort (fun x y => decide (x ≤ y)) = M.files.map D.Fl.name := by
  rw [D.strKeys_datum] at hp
  have h1 := mergeSort_of_perm hp
  have h2 := sorted_of_rise h.rise
  have h3 : Es.map D.kE = M.files.map D.Fl.name := by rw [← h.eq, List.map_map]; rfl
  rw [h3] at h1 h2
  exact h1.trans h2
set_option maxHeartbeats 1000000 in
theorem list_any {B : Nat} {w : World} {p : Nat} {M : D.Dk} (h : DkAt B w p M) :
    Calls Try.prog 55 #[.pointer (some ⟨p, 0, none⟩)] w fun e w' => ∃ v, e = .returned v ∧ Row1 w' 9 v ((D.list M).map encStr) ∧ (v.ownBlock = none ∨ ∃ k, w.heap.size ≤ k ∧ v.ownBlock = some k) ∧ Below w.heap.size w w' := by
  obtain ⟨mb, Es, h⟩ := h
  have c1 := h.blk.cellv (i := 1) rfl
  have c3 := h.blk.cellv (i := 3) rfl
  cases hd : M.dead with
  | true =>
    have hR : D.list M = [] := by unfold D.list; rw [if_pos hd]
    rw [hd] at c3
    rw [hR]
    go_enter Try.func55, Try.ntmps55
    go_wp2
    go_ret
    exact ⟨_, rfl, Row1.nil _ _, .inl rfl, Below.refl _ _⟩
  | false =>
    have hR : D.list M = M.files.map D.Fl.name := by unfold D.list; rw [if_neg (by simp [hd])]
    rw [hd] at c3
    rw [hR]
    have hsz : Maps.size (D.datum Es) ≤ 4096 := by rw [D.datum_size, h.len]; exact h.few
    have cK := Lib.hid (fun W => callsIn_wide.1 (Try.maps_Keys_80 (some mb) W))
    have cS := Lib.hid (callsIn_wide.1 (Try.slices_Sorted_keys_79_80 mb _ _ _ w h.map (Nat.le_trans hsz (by decide)) (by omega)))
    have hks := fun ss => keys_sorted h (ss := ss)
    go_enter Try.func55, Try.ntmps55
    go_wp2_with (first | (go_at_call 80; (with_reducible refine (cK.out _).mono ?_); rintro e w1 ⟨rfl, rfl⟩) | (go_at_call 79; (with_reducible refine cS.out.mono ?_); rintro e w2 ⟨v, ss, rfl, hS, hrow, -, hb⟩))
    go_ret
    have e1 := hks ss hS
    have e2 : ss.length = ((M.files.map D.Fl.name).map encStr).length := by rw [← e1, List.length_map, List.length_mergeSort]
    refine ⟨v, rfl, ?_, ?_, ((Below.refl _ w).alloc (Nat.le_refl _) _).trans (hb.mono (by simp))⟩
    · unfold Row1
      rw [← e2, ← e1]
      exact owns_zero hrow
    · rcases own_of_base hrow with e | ⟨k, hk, e⟩
      · exact .inl e
      · exact .inr ⟨k, by simp at hk; omega, e⟩
end Go.Proofs.Ytknkbioalohofaa
