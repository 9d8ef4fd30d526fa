/- The walk of sha.Joined. -/
import Derived.Test.YtgjmnhbkdccgpaaWSum
import Derived.Test.YtgjmnhbkdccgpaaPureJoin
import Derived.Test.YtgjmnhbkdccgpaaKit8
namespace Go.Proofs.Ytgjmnhbkdccgpaa
open Go.RowKit

/-- What the walk keeps: the bytes gathered, the result's block. -/
structure Jn (w wr : World) (v : Value) (xs : List UInt8) : Prop where
  buf : Buf wr v xs
  own : v.ownBlock = none ∨ ∃ k, w.heap.size + 1 ≤ k ∧ v.ownBlock = some k
  out : Blk wr w.heap.size (labA zlab) 25
  bel : Below w.heap.size w wr
  siz : w.heap.size + 1 ≤ wr.heap.size
theorem Jn.app {w wr w0 w1 : World} {v v1 : Value} {xs ys : List UInt8} (h : Jn w wr v xs) (h0 : Below wr.heap.size wr w0) (hb : Buf w1 v1 ys) (hg : w0.grownBy w1 v.ownBlock)
    (hr : v1.ownBlock = v.ownBlock ∨ ∃ k, w0.heap.size ≤ k ∧ v1.ownBlock = some k) : Jn w w1 v1 ys := by
  have hz := h0.size
  have hs := h.siz
  refine ⟨hb, own_later h.own (Nat.le_trans hs hz) hr, (h.out.at_ h0).grown hg ?_, below_grown_own (h.bel.trans (h0.mono h.bel.size)) (by omega) hg ?_, Nat.le_trans (Nat.le_trans hs hz) hg.size⟩
  · intro e
    rcases h.own with e1 | ⟨k, hk, e1⟩
    · rw [e1] at e; cases e
    · rw [e1] at e; injection e with e; omega
  · rcases h.own with e1 | ⟨k, hk, e1⟩
    · exact .inl e1
    · exact .inr ⟨k, by omega, e1⟩
theorem shr_len (n j : Nat) (z : Int) (hz : z + 8 * j = 24) (hj : j < 4) : (n : Int) / 2 ^ z.toNat = ((n / 256 ^ (3 - j) : Nat) : Int) := by
  rw [show z.toNat = 8 * (3 - j) from by omega, Nat.pow_mul 2 8 (3 - j) |> fun h => show ((2 : Int) ^ (8 * (3 - j))) = (((2 ^ 8) ^ (3 - j) : Nat) : Int) from by rw [← h]; simp, Int.natCast_ediv]
set_option maxRecDepth 100000 in
set_option maxHeartbeats 1000000 in
theorem joined_any (tag : UInt8) (ts : List (List UInt8)) (v : Value) (w : World) (hS : SRead w v (ts.map strV)) (hl : (J.joinB tag ts).length ≤ 140737488355000) :
    Calls Try.prog 25 #[.int .u8 (tag.toNat : Int), v] w fun e w' => e = .returned (.agg (labA (S.sum (J.joinB tag ts)))) ∧ Below w.heap.size w w' := by
  obtain ⟨A, c, rfl, hcap, hA⟩ := hS
  have hnl : (ts.map strV).length = ts.length := List.length_map ..
  rw [hnl] at hcap ⊢
  have hb0 := buf_build (w.alloc (.cells (labA zlab) 25)) [tag] #[.int .u8 (tag.toNat : Int)] 1 rfl rfl (by omega)
  have J0 : Jn w ((w.alloc (.cells (labA zlab) 25)).alloc (.cells #[.int .u8 (tag.toNat : Int)] 5)) (.slice (some ⟨w.heap.size + 1, 0, none⟩) 1 1) (J.joinB tag (ts.take 0)) := by
    rw [World.size_alloc] at hb0
    exact ⟨hb0, .inr ⟨_, Nat.le_refl _, rfl⟩, (Blk.new w _ _).alloc _, (below_alloc1 w _).alloc (by simp) _, by simp⟩
  have hnb := J.joins_ge ts
  have hnb2 : ts.length ≤ 140737488355000 := by
    have e2 : (J.joinB tag ts).length = (J.joins ts).length + 1 := rfl
    omega
  clear hb0 hnl hnb
  go_enter Try.func25, Try.ntmps25
  go_wp2_with (refine wpList_fresh (by rfl) 25 (by rfl) _ fresh_lab ?_; simp only [Act.put, List.setIfInBounds_toArray, List.set_cons_succ, List.set_cons_zero]; try simp only [World.size_alloc])
  generalize (Value.slice (some ⟨w.heap.size + 1, 0, none⟩) 1 1) = v0 at *
  generalize (w.alloc (.cells (labA zlab) 25)).alloc (.cells #[.int .u8 (tag.toNat : Int)] 5) = w0 at *
  obtain ⟨n, hn⟩ : ∃ n, n = ts.length := ⟨_, rfl⟩
  rw [← hn] at hnb2 ⊢
  have Hn := Lib.hid hn
  clear hn
  go_loopw [5, 13] (fun v i wr => ∃ k : Nat, k ≤ n ∧ i = .int .i64 (k : Int) ∧ Jn w wr v (J.joinB tag (ts.take k))) (fun _ i _ => n - (intOf i).toNat)
  case atStart => exact ⟨0, by omega, rfl, J0⟩
  case round =>
    clear J0
    obtain ⟨k, hk, rfl, Jk⟩ := hrel
    have hx : (J.joinB tag (ts.take k)).length ≤ 140737488355000 := by
      have := J.joins_take_le ts k
      have e1 : (J.joinB tag (ts.take k)).length = (J.joins (ts.take k)).length + 1 := rfl
      have e2 : (J.joinB tag ts).length = (J.joins ts).length + 1 := rfl
      omega
    by_cases hlt : k < n
    · have d1 : decide ((k : Int) < (n : Int)) = true := by simp; omega
      have d2 : decide (k < n) = true := by simp; omega
      have hkt : k < ts.length := by have := Hn.out; omega
      have hx2 : (J.joinB tag (ts.take (k + 1))).length ≤ 140737488355000 := by
        have := J.joins_take_le ts (k + 1)
        have e1 : (J.joinB tag (ts.take (k + 1))).length = (J.joins (ts.take (k + 1))).length + 1 := rfl
        have e2 : (J.joinB tag ts).length = (J.joins ts).length + 1 := rfl
        omega
      obtain ⟨gt, ot, rfl, hgt, hcell⟩ := hA.resolve_left (by intro e; have := congrArg List.length e; simp at this; rw [this] at hkt; simp at hkt)
      have hsn := J.joinB_snoc tag ts k hkt
      have kc : wr.cell? ⟨gt, ot + k, none⟩ = some (.string ⟨(ts.getD k []).toArray⟩) := by
        rw [Jk.bel.cell (p := ⟨gt, ot + k, none⟩) hgt]
        exact hcell k _ (by rw [List.getElem?_map, List.getElem?_eq_getElem hkt, List.getD_eq_getElem?_getD, List.getElem?_eq_getElem hkt]; rfl)
      rw [hsn] at hx2
      generalize ts.getD k [] = t at *
      generalize J.joinB tag (ts.take k) = X at *
      have Hsn := Lib.hid hsn
      have htl : t.length ≤ 140737488355000 := by simp at hx2; omega
      have jk : (0 : Int) ≤ (k : Int) := by omega
      have jk2 : (k : Int) < (n : Int) := by omega
      clear hsn hA hcell hgt hkt
      go_wp2
      clear kc
      go_loopw [5, 8] (fun v i wz => ∃ (j : Nat) (z : Int), j ≤ 4 ∧ z + 8 * j = 24 ∧ i = .int .i64 z ∧ Jn w wz v (X ++ (J.len4 t.length).take j)) (fun _ i _ => (intOf i + 8).toNat)
      case atStart => exact ⟨0, 24, by omega, by omega, rfl, by rw [List.take_zero, List.append_nil]; exact Jk⟩
      case round =>
        clear Jk
        obtain ⟨j, z, hj, hz, rfl, Jk⟩ := hrel
        by_cases hlast : j = 4
        · subst hlast
          obtain rfl : z = -8 := by omega
          rw [List.take_of_length_le (by rw [J.len4_length]; omega)] at Jk
          go_wp2_with (at_builtin; refine wpList_append_buf_str rfl (.tmp 29) (.tmp 30) 36 9 rfl Try.underlying36 Try.underlying9 rfl Jk.buf t rfl (by rw [List.length_append] at hx2; omega) ?_; intro v1 w1 hb1 hg1 hr1; have J1 := Jk.app (Below.refl _ _) hb1 hg1 hr1; clear Jk hb1 hg1 hr1)
          go_roundw
          case rel => exact ⟨k + 1, by omega, by go_num, by rw [Hsn.out]; exact J1⟩
          case measure => simp [intOf]; omega
        · have hz0 : 0 ≤ z := by omega
          have hz1 : z ≤ 24 := by omega
          have hd := shr_len t.length j z hz (by omega)
          have hq : ((UInt8.ofNat (t.length / 256 ^ (3 - j))).toNat : Int) = ((t.length / 256 ^ (3 - j) : Nat) : Int) % 256 := by rw [UInt8.toNat_ofNat']; omega
          have Htk := Lib.hid (J.len4_take t.length j (by omega))
          have hqn := Int.natCast_nonneg (t.length / 256 ^ (3 - j))
          generalize t.length / 256 ^ (3 - j) = q at *
          have hXl : (X ++ (J.len4 t.length).take j).length + 1 ≤ 140737488355328 := by rw [List.length_append, List.length_append, J.len4_length] at hx2; rw [List.length_append, List.length_take, J.len4_length]; omega
          go_wp2_with (at_builtin; refine wpList_append_buf rfl (.tmp 21) (.tmp 27) 36 rfl Try.underlying36 rfl (Jk.buf.alloc _) ⟨wr.heap.size, 0, none⟩ 1 1 [UInt8.ofNat q] rfl rfl (cells1 _ _ _ hq _) hXl ?_; intro v1 w1 hb1 hg1 hr1; have J1 := Jk.app (below_alloc1 _ _) hb1 hg1 hr1; clear Jk hb1 hg1 hr1)
          go_roundw
          case rel => exact ⟨j + 1, z - 8, by omega, by omega, by rfl, by rw [Htk.out, ← List.append_assoc]; exact J1⟩
          case measure => simp [intOf]; omega
    · obtain rfl : k = n := by omega
      have hx0 : (J.joinB tag ts).length ≤ 140737488355000 := hl
      rw [List.take_of_length_le (by have := Hn.out; omega)] at Jk
      have hl32 := S.sum_length (J.joinB tag ts)
      have H1 := Lib.hid (fun W => sum_any (J.joinB tag ts) W hx0)
      generalize hs : S.sum (J.joinB tag ts) = s at *
      have Hs := Lib.hid hs
      clear hs
      clear hA hx hl
      generalize hX : J.joinB tag ts = X at *
      have HX := Lib.hid hX
      clear hX
      rcases Jk.buf.form with ⟨rfl, hnil⟩ | ⟨gb, cb, rfl⟩
      · exact absurd hnil (by rw [← HX.out]; simp [J.joinB])
      have hstr := Jk.buf.string Try.underlying36 Try.underlying9
      go_wp2_with (first | (go_at_call 20; with_reducible refine (H1.out _).mono ?_; rintro e w1 ⟨rfl, hb1⟩) | ((refine wpList_store_blk (by rfl) 25 (.tmp 4) (.tmp 35) (by rfl) (0) (labA s) (by rfl) (by rfl) ((Jk.out.at_ hb1)) ((by rw [labA_size, labA_size, hl32]; decide)) (size_lab s hl32) (labA_all _) ?_; simp only [Act.put]); intro w9 b9 o9))
      rw [splice_all _ _ (by rw [labA_size, labA_size, hl32]; decide)] at b9
      exact bodyPost_ret (v := .agg (labA s)) (results_blk (by rfl) _ b9 _ (by rfl) Try.underlying25 (by rfl) (size_lab s hl32)) rfl ⟨by rw [HX.out, Hs.out], o9.below (Jk.bel.trans (hb1.mono Jk.bel.size)) (Nat.le_refl _)⟩
end Go.Proofs.Ytgjmnhbkdccgpaa
