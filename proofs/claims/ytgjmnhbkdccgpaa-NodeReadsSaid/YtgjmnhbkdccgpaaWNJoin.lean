/- The walk of node.joined. -/
import Derived.Test.YtgjmnhbkdccgpaaWRBytes
namespace Go.Proofs.Ytgjmnhbkdccgpaa
open Go.RowKit

structure Nj (w wr : World) (v : Value) (xs : List UInt8) : Prop where
  buf : Buf wr v xs
  own : v.ownBlock = none ∨ ∃ k, w.heap.size ≤ k ∧ v.ownBlock = some k
  bel : Below w.heap.size w wr
theorem Nj.app {w wr w0 w1 : World} {v v1 : Value} {xs ys : List UInt8} (h : Nj w wr v xs) (h0 : Below wr.heap.size wr w0) (hb : Buf w1 v1 ys) (hg : w0.grownBy w1 v.ownBlock)
    (hr : v1.ownBlock = v.ownBlock ∨ ∃ k, w0.heap.size ≤ k ∧ v1.ownBlock = some k) : Nj w w1 v1 ys := by
  have hz := h0.size
  have hs := h.bel.size
  exact ⟨hb, own_later h.own (Nat.le_trans hs hz) hr, below_grown_own (h.bel.trans (h0.mono hs)) (Nat.le_trans hs hz) hg h.own⟩
theorem cells4 (w : World) (n : Nat) : ∀ (j : Nat) (u : Value), ((J.len4 n).map byteV)[j]? = some u → (w.alloc (.cells #[.int .u8 ((n : Int) / 16777216 % 256), .int .u8 ((n : Int) / 65536 % 256), .int .u8 ((n : Int) / 256 % 256), .int .u8 ((n : Int) % 256)] 5)).cell? ((⟨w.heap.size, 0, none⟩ : Addr).add j) = some u :=
  cells_new w (J.len4 n) _ (len4_cells n) 5
set_option maxRecDepth 100000 in
set_option maxHeartbeats 1000000 in
theorem njoined_any (tag : UInt8) (ts : List (List UInt8)) (v : Value) (w : World) (hS : SRead w v (ts.map strV)) (hl : (J.joinB tag ts).length ≤ 140737488355000) :
    Calls Try.prog 113 #[.int .u8 (tag.toNat : Int), v] w fun e w' => e = .returned (.string ⟨(J.joinB tag ts).toArray⟩) ∧ Below w.heap.size w w' := by
  obtain ⟨A, c, rfl, hcap, hA⟩ := hS
  have hnl : (ts.map strV).length = ts.length := List.length_map ..
  rw [hnl] at hcap ⊢
  have J0 : Nj w (w.alloc (.cells #[.int .u8 (tag.toNat : Int)] 5)) (.slice (some ⟨w.heap.size, 0, none⟩) 1 1) (J.joinB tag (ts.take 0)) :=
    ⟨buf_build w [tag] #[.int .u8 (tag.toNat : Int)] 1 rfl rfl (by omega), .inr ⟨_, Nat.le_refl _, rfl⟩, below_alloc1 w _⟩
  have hnb := J.joins_ge ts
  have hnb2 : ts.length ≤ 140737488355000 := by
    have e2 : (J.joinB tag ts).length = (J.joins ts).length + 1 := rfl
    omega
  clear hnl hnb
  go_enter Try.func113, Try.ntmps113
  go_wp2
  generalize (Value.slice (some ⟨w.heap.size, 0, none⟩) 1 1) = v0 at *
  generalize w.alloc (.cells #[.int .u8 (tag.toNat : Int)] 5) = w0 at *
  obtain ⟨n, hn⟩ : ∃ n, n = ts.length := ⟨_, rfl⟩
  rw [← hn] at hnb2 ⊢
  have Hn := Lib.hid hn
  clear hn
  go_loopw [5, 13] (fun v i wr => ∃ k : Nat, k ≤ n ∧ i = .int .i64 (k : Int) ∧ Nj w wr v (J.joinB tag (ts.take k))) (fun _ i _ => n - (intOf i).toNat)
  case atStart => exact ⟨0, by omega, rfl, J0⟩
  case round =>
    clear J0
    obtain ⟨k, hk, rfl, Jk⟩ := hrel
    have hx : (J.joinB tag (ts.take k)).length ≤ 140737488355000 := by
      have := J.joins_take_le ts k
      have e1 : (J.joinB tag (ts.take k)).length = (J.joins (ts.take k)).length + 1 := rfl
      have e2 : (J.joinB tag ts).length = (J.joins ts).length + 1 := rfl
      omega
    by_cases hlt : k < n
    · have d1 : decide ((k : Int) < (n : Int)) = true := by simp; omega
      have d2 : decide (k < n) = true := by simp; omega
      have hkt : k < ts.length := by have := Hn.out; omega
      have hx2 : (J.joinB tag (ts.take (k + 1))).length ≤ 140737488355000 := by
        have := J.joins_take_le ts (k + 1)
        have e1 : (J.joinB tag (ts.take (k + 1))).length = (J.joins (ts.take (k + 1))).length + 1 := rfl
        have e2 : (J.joinB tag ts).length = (J.joins ts).length + 1 := rfl
        omega
      obtain ⟨gt, ot, rfl, hgt, hcell⟩ := hA.resolve_left (by intro e; have := congrArg List.length e; simp at this; rw [this] at hkt; simp at hkt)
      have hsn := J.joinB_snoc tag ts k hkt
      have kc : wr.cell? ⟨gt, ot + k, none⟩ = some (.string ⟨(ts.getD k []).toArray⟩) := by
        rw [Jk.bel.cell (p := ⟨gt, ot + k, none⟩) hgt]
        exact hcell k _ (by rw [List.getElem?_map, List.getElem?_eq_getElem hkt, List.getD_eq_getElem?_getD, List.getElem?_eq_getElem hkt]; rfl)
      rw [hsn] at hx2
      generalize ts.getD k [] = t at *
      generalize J.joinB tag (ts.take k) = X at *
      have Hsn := Lib.hid hsn
      have htl : t.length ≤ 140737488355000 := by simp at hx2; omega
      have ht0 : (0 : Int) ≤ (t.length : Int) := by omega
      have jk : (0 : Int) ≤ (k : Int) := by omega
      have jk2 : (k : Int) < (n : Int) := by omega
      have hc4 := cells4 wr t.length
      have hl4 := J.len4_length t.length
      have hXl : X.length + 4 ≤ 140737488355328 := by rw [List.length_append, List.length_append, hl4] at hx2; omega
      have hXl2 : (X ++ J.len4 t.length).length + t.length ≤ 140737488355328 := by rw [List.length_append, List.length_append, hl4] at hx2; rw [List.length_append, hl4]; omega
      have Hc4 := Lib.hid hc4
      clear hsn hA hcell hgt hkt hc4
      go_wp2_with (first | (at_builtin; refine wpList_append_buf rfl (.tmp 19) (.tmp 31) 36 rfl Try.underlying36 rfl (Jk.buf.alloc _) ⟨wr.heap.size, 0, none⟩ 4 4 (J.len4 t.length) rfl hl4 Hc4.out hXl ?_; intro v1 w1 hb1 hg1 hr1; have J1 := Jk.app (below_alloc1 _ _) hb1 hg1 hr1; clear Jk hb1 hg1 hr1) | (at_builtin; refine wpList_append_buf_str rfl (.tmp 33) (.tmp 34) 36 9 rfl Try.underlying36 Try.underlying9 rfl J1.buf t rfl hXl2 ?_; intro v2 w2 hb2 hg2 hr2; have J2 := J1.app (Below.refl _ _) hb2 hg2 hr2; clear J1 hb2 hg2 hr2))
      go_roundw
      case rel => exact ⟨k + 1, by omega, by go_num, by rw [Hsn.out]; exact J2⟩
      case measure => simp [intOf]; omega
    · obtain rfl : k = n := by omega
      rw [List.take_of_length_le (by have := Hn.out; omega)] at Jk
      clear hA hx hl
      generalize hX : J.joinB tag ts = X at *
      have HX := Lib.hid hX
      clear hX
      rcases Jk.buf.form with ⟨rfl, hnil⟩ | ⟨gb, cb, rfl⟩
      · exact absurd hnil (by rw [← HX.out]; simp [J.joinB])
      have hstr := Jk.buf.string Try.underlying36 Try.underlying9
      go_wp2
      go_ret
      exact ⟨by rw [HX.out]; rfl, Jk.bel⟩
theorem njoined_lit (tag : UInt8) (n : Int) (hn : n = (tag.toNat : Int)) (ts : List (List UInt8)) (v : Value) (w : World) (hS : SRead w v (ts.map strV)) (hl : (J.joinB tag ts).length ≤ 140737488355000) :
    Calls Try.prog 113 #[.int .u8 n, v] w fun e w' => e = .returned (.string ⟨(J.joinB tag ts).toArray⟩) ∧ Below w.heap.size w w' := by
  subst hn
  exact njoined_any tag ts v w hS hl
theorem rbytes_lit (tag : UInt8) (n : Int) (hn : n = (tag.toNat : Int)) (ts : List (List UInt8)) (v : Value) (w : World) (hS : SRead w v (ts.map strV)) (hl : (J.joinB tag ts).length ≤ 140737488355000) :
    Calls Try.prog 26 #[.int .u8 n, v] w fun e w' => e = .returned (.string ⟨(J.joinB tag ts).toArray⟩) ∧ Below w.heap.size w w' := by
  subst hn
  exact rbytes_any tag ts v w hS hl
end Go.Proofs.Ytgjmnhbkdccgpaa
