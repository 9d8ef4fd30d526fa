/- The walk of Tables. -/
import Derived.Test.YtgjmnhbkdccgpaaWPrimes
import Derived.Test.YtgjmnhbkdccgpaaWRoot
import Derived.Test.YtgjmnhbkdccgpaaPureRoot2
namespace Go.Proofs.Ytgjmnhbkdccgpaa
open Go.RowKit

def u32V (n : Nat) : Value := .int .u32 (n : Int)
theorem info_u32 : Info1 31 (.int .u32 0) 4 := ⟨by kernel_rfl, rfl, by omega⟩
theorem u32_one (l : List Nat) : ∀ u ∈ l.map u32V, u.oneCell' = true := by
  intro u hu
  obtain ⟨b, _, rfl⟩ := List.mem_map.1 hu
  rfl
namespace T
def hL : List Nat := (List.range 8).map fun j => (S.begin.list.getD j 0#32).toNat
def kL : List Nat := (List.range 64).map fun j => (S.steps.getD j 0#32).toNat
theorem hL_length : hL.length = 8 := by simp [hL]
theorem kL_length : kL.length = 64 := by simp [kL]
theorem hL_get (k : Nat) (h : k < 8) : root (plist.getD k 0) 2 = hL.getD k 0 := by
  rw [roots2 ⟨k, h⟩, hL, List.getD_eq_getElem?_getD (l := List.map _ _), List.getElem?_map, List.getElem?_range h]; rfl
theorem kL_get (k : Nat) (h : k < 64) : root (plist.getD k 0) 3 = kL.getD k 0 := by
  rw [roots3 k h, kL, List.getD_eq_getElem?_getD (l := List.map _ _), List.getElem?_map, List.getElem?_range h]; rfl
theorem plist_lt (k : Nat) : plist.getD k 0 < 400 := by
  rw [List.getD_eq_getElem?_getD]
  rcases h : plist[k]? with _ | p
  · simp
  · have h2 : p ∈ plist := List.mem_of_getElem? h
    have h3 : ∀ p ∈ plist, p < 400 := by decide
    exact h3 p h2
theorem take_next (l : List Nat) (k : Nat) (h : k < l.length) : l.take (k + 1) = l.take k ++ [l.getD k 0] := by
  rw [List.take_succ_eq_append_getElem h, List.getD_eq_getElem?_getD, List.getElem?_eq_getElem h]; rfl
end T
structure Two32 (w wr : World) (vx vy : Value) (us vs : List Nat) : Prop where
  x : Row1 wr 31 vx (us.map u32V)
  ox : vx.ownBlock = none ∨ ∃ k, w.heap.size ≤ k ∧ vx.ownBlock = some k
  y : Row1 wr 31 vy (vs.map u32V)
  oy : vy.ownBlock = none ∨ ∃ k, w.heap.size ≤ k ∧ vy.ownBlock = some k
  ne : ∀ g, vx.ownBlock = some g → vy.ownBlock ≠ some g
  bel : Below w.heap.size w wr
theorem Two32.swap {w wr : World} {vx vy : Value} {us vs : List Nat} (h : Two32 w wr vx vy us vs) : Two32 w wr vy vx vs us := ⟨h.y, h.oy, h.x, h.ox, fun g hy hx => h.ne g hx hy, h.bel⟩
theorem Two32.appx {w wr w2 : World} {vx vy v2 : Value} {us us2 vs : List Nat} (h : Two32 w wr vx vy us vs) (o : Obj) (hrow : Row1 w2 31 v2 (us2.map u32V)) (hg : (wr.alloc o).grownBy w2 vx.ownBlock) (hr : v2.ownBlock = vx.ownBlock ∨ ∃ k, (wr.alloc o).heap.size ≤ k ∧ v2.ownBlock = some k) : Two32 w w2 v2 vy us2 vs := by
  have hs1 : w.heap.size ≤ (wr.alloc o).heap.size := by have := h.bel.size; simp; omega
  refine ⟨hrow, own_later h.ox hs1 hr, (h.y.alloc o).grown hg (fun g hy hx => h.ne g hx hy), h.oy, fun g h2 hy => ?_, below_grown_own (h.bel.alloc h.bel.size o) hs1 hg h.ox⟩
  rcases hr with e | ⟨k, hk, e⟩
  · rw [e] at h2; exact h.ne g h2 hy
  · rw [e] at h2
    injection h2 with h2
    have := h.y.lt hy
    simp at hk
    omega
theorem Two32.at_ {w wr w' : World} {vx vy : Value} {us vs : List Nat} (h : Two32 w wr vx vy us vs) (hb : Below wr.heap.size wr w') : Two32 w w' vx vy us vs := ⟨h.x.at_ hb, h.ox, h.y.at_ hb, h.oy, h.ne, h.bel.trans (hb.mono h.bel.size)⟩
theorem row_past {w w2 : World} {vp vx : Value} {ps : List Nat} {xs : List Value} (h : Row1 w 93 vp (ps.map u64V)) (hx : Row1 w 31 vx xs) (o : Obj) (hg : (w.alloc o).grownBy w2 vx.ownBlock) : Row1 w2 93 vp (ps.map u64V) :=
  (h.alloc o).grown hg fun g h1 h2 => h.ne_ hx (by decide) g h1 h2
theorem root2_any (p : Nat) (hp : p < 400) (w : World) :
    Calls Try.prog 64 #[.int .u64 (p : Int), .int .i64 2] w fun e w' => e = .returned (.int .u32 (T.root p 2 : Int)) ∧ Below w.heap.size w w' := root_any p 2 hp (by omega) (by omega) w
theorem root3_any (p : Nat) (hp : p < 400) (w : World) :
    Calls Try.prog 64 #[.int .u64 (p : Int), .int .i64 3] w fun e w' => e = .returned (.int .u32 (T.root p 3 : Int)) ∧ Below w.heap.size w w' := root_any p 3 hp (by omega) (by omega) w
set_option maxRecDepth 100000 in
set_option maxHeartbeats 4000000 in
theorem tables_any (w : World) :
    Calls Try.prog 22 #[] w fun e w' => ∃ vh vk, e = .returned (.tuple #[vh, vk]) ∧ Row1 w' 31 vh (T.hL.map u32V) ∧ Row1 w' 31 vk (T.kL.map u32V) ∧ Below w.heap.size w w' := by
  have hx0 := (Row1.build w 31 [] #[] 0 rfl rfl (by omega)).alloc (.cells #[] 31)
  have hy0 := Row1.build (w.alloc (.cells #[] 31)) 31 [] #[] 0 rfl rfl (by omega)
  rw [World.size_alloc] at hy0
  have T0 : Two32 w ((w.alloc (.cells #[] 31)).alloc (.cells #[] 31)) (.slice (some ⟨w.heap.size, 0, none⟩) 0 0) (.slice (some ⟨w.heap.size + 1, 0, none⟩) 0 0) (T.hL.take (min 0 8)) (T.kL.take 0) :=
    ⟨hx0, .inr ⟨_, Nat.le_refl _, rfl⟩, hy0, .inr ⟨w.heap.size + 1, by omega, rfl⟩, fun g h1 h2 => (by simp only [Value.ownBlock, Option.some.injEq] at h1 h2; omega), (below_alloc1 w _).alloc (by rw [World.size_alloc]; omega) _⟩
  have HP := Lib.hid (fun W => primes_any W)
  clear hx0 hy0
  go_enter Try.func22, Try.ntmps22
  go_wp2_with (go_at_call 63; with_reducible refine (HP.out _).mono ?_; rintro e w1 ⟨vp, rfl, hP, hb1⟩; obtain ⟨gp, cp, rfl, hcp⟩ := hP.form_len (n := 64) rfl (by omega))
  have T1 := T0.at_ hb1
  clear T0 hb1
  go_loopw [2, 3, 10] (fun a b i wr => ∃ (k : Nat) (va vb : Value), va = a ∧ vb = b ∧ k ≤ 64 ∧ i = .int .i64 (k : Int) ∧ Two32 w wr va vb (T.hL.take (min k 8)) (T.kL.take k) ∧ Row1 wr 93 (.slice (some ⟨gp, 0, none⟩) 64 cp) (T.plist.map u64V)) (fun _ _ i _ => 64 - (intOf i).toNat)
  case atStart => exact ⟨0, _, _, rfl, rfl, by omega, rfl, T1, hP⟩
  case round =>
    clear T1 hP
    obtain ⟨k, va, vb, rfl, rfl, hk, rfl, hT, hP⟩ := hrel
    by_cases hlt : k < 64
    · have d1 : decide ((k : Int) < 64) = true := by simp; omega
      have d1' : decide (k < 64) = true := by simpa using hlt
      have kc : wr.cell? ⟨gp, k, none⟩ = some (.int .u64 ((T.plist.getD k 0 : Nat) : Int)) := hP.cell rfl k _ (by rw [List.getElem?_map, List.getElem?_eq_getElem (show k < T.plist.length from hlt), List.getD_eq_getElem?_getD, List.getElem?_eq_getElem (show k < T.plist.length from hlt)]; rfl)
      have hpl := T.plist_lt k
      have hrk := T.kL_get k hlt
      have R3 := Lib.hid (fun W => root3_any (T.plist.getD k 0) hpl W)
      have tk := T.take_next T.kL k (by rw [T.kL_length]; omega)
      have ly : ((((T.kL.take k).map u32V)).length + 1) * 4 ≤ 140737488355328 := by rw [List.length_map, List.length_take]; omega
      rw [hrk] at R3
      generalize T.kL.getD k 0 = b at *
      have Tk := Lib.hid tk
      clear tk hrk
      have k0 : (0 : Int) ≤ (k : Int) := by omega
      by_cases h8 : k < 8
      · have d3 : decide ((k : Int) < 8) = true := by simp; omega
        have d3' : decide (k < 8) = true := by simpa using h8
        have hrh := T.hL_get k h8
        have R2 := Lib.hid (fun W => root2_any (T.plist.getD k 0) hpl W)
        have th := T.take_next T.hL k (by rw [T.hL_length]; omega)
        rw [hrh] at R2
        rw [Nat.min_eq_left (by omega)] at hT
        have Hm := Lib.hid (show min (k + 1) 8 = k + 1 by omega)
        have lx : ((((T.hL.take k).map u32V)).length + 1) * 4 ≤ 140737488355328 := by rw [List.length_map, List.length_take]; omega
        generalize T.hL.getD k 0 = a at *
        have Th := Lib.hid th
        clear th hrh
        generalize T.plist.getD k 0 = p at *
        go_wp2_with (first | (go_at_call 64; with_reducible refine (R2.out _).mono ?_; rintro e w1 ⟨rfl, hb1⟩; have T1 := hT.at_ hb1; have P1 := hP.at_ hb1) | (go_at_call 64; with_reducible refine (R3.out _).mono ?_; rintro e w3 ⟨rfl, hb3⟩; have T3 := T2.at_ hb3; have P3 := P2.at_ hb3) | (at_builtin; refine wpList_append_row rfl info_u32 (.tmp 17) (.tmp 20) 28 rfl Try.underlying28 rfl (T1.x.alloc _) ⟨w1.heap.size, 0, none⟩ 1 1 [u32V a] rfl rfl (new_cells _ _ _ rfl _) (u32_one [a]) lx ?_; intro v1 w2 hrow2 hg2 hr2; rw [show (T.hL.take k).map u32V ++ [u32V a] = (T.hL.take k ++ [a]).map u32V by simp, ← Th.out] at hrow2; have P2 := row_past P1 T1.x _ hg2; have T2 := T1.appx _ hrow2 hg2 hr2) | (at_builtin; refine wpList_append_row rfl info_u32 (.tmp 22) (.tmp 25) 28 rfl Try.underlying28 rfl (T3.y.alloc _) ⟨w3.heap.size, 0, none⟩ 1 1 [u32V b] rfl rfl (new_cells _ _ _ rfl _) (u32_one [b]) ly ?_; intro v2 w4 hrow4 hg4 hr4; rw [show (T.kL.take k).map u32V ++ [u32V b] = (T.kL.take k ++ [b]).map u32V by simp, ← Tk.out] at hrow4; have P4 := row_past P3 T3.y _ hg4; have T4 := (T3.swap.appx _ hrow4 hg4 hr4).swap))
        go_roundw
        case rel => exact ⟨k + 1, _, _, rfl, rfl, by omega, by go_num, by rw [Hm.out]; exact T4, P4⟩
        case measure => simp [intOf]; omega
      · have d3 : decide ((k : Int) < 8) = false := by simp; omega
        have d3' : decide (k < 8) = false := by simpa using h8
        rw [Nat.min_eq_right (by omega)] at hT
        have Hm := Lib.hid (show min (k + 1) 8 = 8 by omega)
        generalize T.plist.getD k 0 = p at *
        go_wp2_with (first | (go_at_call 64; with_reducible refine (R3.out _).mono ?_; rintro e w3 ⟨rfl, hb3⟩; have T3 := hT.at_ hb3; have P3 := hP.at_ hb3) | (at_builtin; refine wpList_append_row rfl info_u32 (.tmp 22) (.tmp 25) 28 rfl Try.underlying28 rfl (T3.y.alloc _) ⟨w3.heap.size, 0, none⟩ 1 1 [u32V b] rfl rfl (new_cells _ _ _ rfl _) (u32_one [b]) ly ?_; intro v2 w4 hrow4 hg4 hr4; rw [show (T.kL.take k).map u32V ++ [u32V b] = (T.kL.take k ++ [b]).map u32V by simp, ← Tk.out] at hrow4; have P4 := row_past P3 T3.y _ hg4; have T4 := (T3.swap.appx _ hrow4 hg4 hr4).swap))
        go_roundw
        case rel => exact ⟨k + 1, _, _, rfl, rfl, by omega, by go_num, by rw [Hm.out]; exact T4, P4⟩
        case measure => simp [intOf]; omega
    · obtain rfl : k = 64 := by omega
      rw [show min 64 8 = 8 from rfl, List.take_of_length_le (by rw [T.hL_length]; omega), List.take_of_length_le (by rw [T.kL_length]; omega)] at hT
      clear hlt
      go_wp2
      go_ret2
      exact ⟨_, _, rfl, hT.x, hT.y, hT.bel⟩
end Go.Proofs.Ytgjmnhbkdccgpaa
