/- The walk of the document's own words of a block. -/
import Derived.Test.YtgjmnhbkdccgpaaWRPad
namespace Go.Proofs.Ytgjmnhbkdccgpaa
open Go.RowKit

/-- Four bytes, as this walk puts them together. -/
structure Sums (b1 b2 b3 b4 : Nat) (p1 p2 p3 p4 p5 n : Nat) : Prop where
  w1 : IntKind.u32.wrap (b1 : Int) = b1
  w2 : IntKind.u32.wrap (b2 : Int) = b2
  w3 : IntKind.u32.wrap (b3 : Int) = b3
  w4 : IntKind.u32.wrap (b4 : Int) = b4
  m1 : IntKind.u32.wrap ((b1 : Int) * 16777216) = p1
  m2 : IntKind.u32.wrap ((b2 : Int) * 65536) = p2
  m3 : IntKind.u32.wrap ((b3 : Int) * 256) = p3
  o1 : IntKind.u32.wrap ((p1 : Int) + (p2 : Int)) = p4
  o2 : IntKind.u32.wrap ((p4 : Int) + (p3 : Int)) = p5
  o3 : IntKind.u32.wrap ((p5 : Int) + (b4 : Int)) = n
theorem word_sums (b : List UInt8) (i : Nat) : ∃ p1 p2 p3 p4 p5, Sums (b.getD (4 * i) 0).toNat (b.getD (4 * i + 1) 0).toNat (b.getD (4 * i + 2) 0).toNat (b.getD (4 * i + 3) 0).toNat p1 p2 p3 p4 p5 (S.word b i).toNat := by
  have h1 := (b.getD (4 * i) 0).toNat_lt
  have h2 := (b.getD (4 * i + 1) 0).toNat_lt
  have h3 := (b.getD (4 * i + 2) 0).toNat_lt
  have h4 := (b.getD (4 * i + 3) 0).toNat_lt
  have e : (S.word b i).toNat = (b.getD (4 * i) 0).toNat * 16777216 + (b.getD (4 * i + 1) 0).toNat * 65536 + (b.getD (4 * i + 2) 0).toNat * 256 + (b.getD (4 * i + 3) 0).toNat := by
    unfold S.word
    rw [BitVec.toNat_ofNat]
    exact Nat.mod_eq_of_lt (by omega)
  rw [e]
  generalize (b.getD (4 * i) 0).toNat = b1 at *
  generalize (b.getD (4 * i + 1) 0).toNat = b2 at *
  generalize (b.getD (4 * i + 2) 0).toNat = b3 at *
  generalize (b.getD (4 * i + 3) 0).toNat = b4 at *
  refine ⟨b1 * 16777216, b2 * 65536, b3 * 256, b1 * 16777216 + b2 * 65536, b1 * 16777216 + b2 * 65536 + b3 * 256, ?_⟩
  constructor <;> (rw [wrap_u32_in _ (by omega)]; try omega)
/-- What the walk of the words keeps. -/
structure Wds (w wr : World) (gb ob : Nat) (b : List UInt8) : Prop where
  out : Blk wr w.heap.size (wsA (List.replicate 64 0#32)) 34
  bs : ∀ j, j < 64 → wr.cell? ⟨gb, ob + j, none⟩ = some (.int .u8 ((b.getD j 0).toNat : Int))
  bel : Below w.heap.size w wr
  lb : gb < w.heap.size
  siz : w.heap.size + 2 ≤ wr.heap.size
section
variable {w wr : World} {gb ob : Nat} {b : List UInt8}
theorem Wds.below {w' : World} (h : Wds w wr gb ob b) (hb : Below (w.heap.size + 1) wr w') : Wds w w' gb ob b :=
  ⟨h.out.below hb (by omega), fun j hj => (hb.cell (p := ⟨gb, ob + j, none⟩) (by have := h.lb; simp; omega)).trans (h.bs j hj), h.bel.trans (hb.mono (by omega)), h.lb, Nat.le_trans h.siz hb.size⟩
theorem Wds.drew (h : Wds w wr gb ob b) : Wds w wr.drew gb ob b := h.below (Below.refl _ _).drew
theorem Wds.at_ {w' : World} (h : Wds w wr gb ob b) (hb : Below wr.heap.size wr w') : Wds w w' gb ob b := h.below (hb.mono (by have := h.siz; omega))
theorem Wds.put (h : Wds w wr gb ob b) (p : Addr) (hp : w.heap.size + 1 ≤ p.block) (x : Value) : Wds w (wr.setCell p x) gb ob b := h.below ((Below.refl _ _).setCell hp x)
end
theorem right_b (x : BitVec 32) (n : Nat) (k : Int) (hk : k = (n : Int)) (h1 : 1 ≤ n) (h2 : n ≤ 31) (w : World) :
    Calls Try.prog 62 #[.int .u32 (uw x), .int .i64 k] w fun e w' => e = .returned (.int .u32 (uw (S.rotr x n))) ∧ Below w.heap.size w w' :=
  (right_lit x n k hk h1 h2 w).mono fun _ _ h => ⟨h.1, by obtain ⟨j, e⟩ := h.2; rw [e]; exact below_drewN (Below.refl _ _) j⟩
theorem zero_w64 (w : World) : (Instr.build 34 #[]).run Try.prog w = .ok (.agg (wsA (List.replicate 64 0#32))) w := by kernel_rfl
set_option maxRecDepth 100000 in
set_option maxHeartbeats 4000000 in
theorem words_any (b : List UInt8) (gb ob cap : Nat) (w : World) (hbs : ∀ j, j < 64 → w.cell? ⟨gb, ob + j, none⟩ = some (.int .u8 ((b.getD j 0).toNat : Int))) (hgb : gb < w.heap.size) :
    Calls Try.prog 61 #[.slice (some ⟨gb, ob, none⟩) 64 cap] w fun e w' => e = .returned (.agg (wsA (S.schTo b 64))) ∧ Below w.heap.size w w' := by
  go_enter Try.func61, Try.ntmps61
  go_wp2_with (first | (refine wpList_fresh (by rfl) 34 (by rfl) _ fresh_w64 ?_; simp only [Act.put, List.setIfInBounds_toArray, List.set_cons_succ, List.set_cons_zero]; try simp only [World.size_alloc]) | (refine wpList_zero (by rfl) 34 (by rfl) _ zero_w64 ?_; simp only [Act.put, List.setIfInBounds_toArray, List.set_cons_succ, List.set_cons_zero]) | ((refine wpList_store_blk (by rfl) 34 (.tmp 3) (.tmp 8) (by rfl) (0) (wsA (List.replicate 64 0#32)) (by rfl) (by rfl) ((blk_new1 _ _ _ _)) ((by rw [wsA_size]; decide)) (size_w64 (List.replicate 64 0#32) rfl) (wsA_all _) ?_; simp only [Act.put]); intro w4 bw o4))
  rw [splice_all _ _ rfl, ← schA_zero b] at bw
  have M : Wds w w4 gb ob b := by
    have h0 : Below w.heap.size w (w.alloc (.cells (wsA (List.replicate 64 0#32)) 34)) := below_alloc1 w _
    have h1 := o4.below (h0.alloc (by simp) (.cells (wsA (List.replicate 64 0#32)) 34)) (by omega)
    exact ⟨((Blk.new w _ _).alloc _).only o4 (by omega), fun j hj => (h1.cell (p := ⟨gb, ob + j, none⟩) hgb).trans (hbs j hj), h1, hgb, by rw [o4.size]; simp⟩
  clear o4 hbs
  go_loopw [4] (fun i wr => ∃ k : Nat, k ≤ 16 ∧ i = .int .i64 (k : Int) ∧ Blk wr (w.heap.size + 1) (wsA (schA b k)) 34 ∧ Wds w wr gb ob b) (fun i _ => 16 - (intOf i).toNat)
  case atStart => exact ⟨0, by omega, rfl, bw, M⟩
  case round =>
    clear bw M
    obtain ⟨k, hk16, rfl, bw, M⟩ := hrel
    by_cases hlt : k < 16
    · have d1 : decide ((k : Int) < 16) = true := by simp; omega
      obtain ⟨p1, p2, p3, p4, p5, hf⟩ := word_sums b k
      obtain ⟨y1, y2, y3, y4, y5, y6, y7, y8, y9, y10⟩ := hf
      have k0 := M.bs (4 * k) (by omega)
      have k1 := M.bs (4 * k + 1) (by omega)
      have k2 := M.bs (4 * k + 2) (by omega)
      have k3 := M.bs (4 * k + 3) (by omega)
      have kw := bw.cellv (wsA_get _ k (by rw [schA_length _ _ (by omega)]; omega))
      have fw := bw.free k
      have hset := wsA_set (schA b k) k (S.word b k)
      have hsn : S.schN b (S.schTo b k) k = S.word b k := by unfold S.schN; rw [if_pos hlt]
      rw [← hsn, schA_set b k (by omega), hsn] at hset
      unfold w32 at hset
      have hu : uw (S.word b k) = ((S.word b k).toNat : Int) := rfl
      rw [hu] at hset
      have Hset := Lib.hid hset
      clear hset hsn hu
      generalize (S.word b k).toNat = Y at *
      generalize (b.getD (4 * k) 0).toNat = c0 at *
      generalize (b.getD (4 * k + 1) 0).toNat = c1 at *
      generalize (b.getD (4 * k + 2) 0).toNat = c2 at *
      generalize (b.getD (4 * k + 3) 0).toNat = c3 at *
      have i0 : IntKind.i64.wrap (4 * (k : Int)) = ((4 * k : Nat) : Int) := by rw [IntWalk.i64_in _ (by omega)]; omega
      have i1 : IntKind.i64.wrap (((4 * k : Nat) : Int) + 1) = ((4 * k + 1 : Nat) : Int) := by rw [IntWalk.i64_in _ (by omega)]; omega
      have i2 : IntKind.i64.wrap (((4 * k : Nat) : Int) + 2) = ((4 * k + 2 : Nat) : Int) := by rw [IntWalk.i64_in _ (by omega)]; omega
      have i3 : IntKind.i64.wrap (((4 * k : Nat) : Int) + 3) = ((4 * k + 3 : Nat) : Int) := by rw [IntWalk.i64_in _ (by omega)]; omega
      have j0 : (0 : Int) ≤ ((4 * k : Nat) : Int) ∧ ((4 * k : Nat) : Int) < 64 := by omega
      have j1 : (0 : Int) ≤ ((4 * k + 1 : Nat) : Int) ∧ ((4 * k + 1 : Nat) : Int) < 64 := by omega
      have j2 : (0 : Int) ≤ ((4 * k + 2 : Nat) : Int) ∧ ((4 * k + 2 : Nat) : Int) < 64 := by omega
      have j3 : (0 : Int) ≤ ((4 * k + 3 : Nat) : Int) ∧ ((4 * k + 3 : Nat) : Int) < 64 := by omega
      generalize 4 * k + 1 = n1 at *
      generalize 4 * k + 2 = n2 at *
      generalize 4 * k + 3 = n3 at *
      generalize 4 * k = n0 at *
      obtain ⟨j0a, j0b⟩ := j0
      obtain ⟨j1a, j1b⟩ := j1
      obtain ⟨j2a, j2b⟩ := j2
      obtain ⟨j3a, j3b⟩ := j3
      have jk : (0 : Int) ≤ (k : Int) := by omega
      have jk2 : (k : Int) < 64 := by omega
      go_wp2
      go_still_tail 38, (by kernel_rfl)
      change wpList _ _ _ _ _ wr.drew
      have kw2 : wr.drew.cell? ⟨w.heap.size + 1, k, none⟩ = _ := kw
      have fw2 : wr.drew.frozen? ⟨w.heap.size + 1, k, none⟩ = false := fw
      have b2 := bw.drew.set_ k (.int .u32 (Y : Int))
      rw [Hset.out] at b2
      have M2 := M.drew.put ⟨w.heap.size + 1, k, none⟩ (Nat.le_refl _) (.int .u32 (Y : Int))
      clear M bw kw fw k0 k1 k2 k3 y1 y2 y3 y4 y5 y6 y7 y8 y9 y10 i0 i1 i2 i3 j0a j0b j1a j1b j2a j2b j3a j3b jk jk2
      generalize wr.drew = w3 at *
      go_wp2
      go_roundw
      case rel => (repeat apply Exists.intro); exact ⟨⟨k + 1, by omega, by go_num, b2, M2⟩, rfl⟩
      case measure => simp [intOf]; omega
    · obtain rfl : k = 16 := by omega
      go_wp2
      go_loopw [5] (fun i wr => ∃ k : Nat, 16 ≤ k ∧ k ≤ 64 ∧ i = .int .i64 (k : Int) ∧ Blk wr (w.heap.size + 1) (wsA (schA b k)) 34 ∧ Wds w wr gb ob b) (fun i _ => 64 - (intOf i).toNat)
      case atStart => exact ⟨16, by omega, by omega, rfl, bw, M⟩
      case round =>
        clear bw M
        obtain ⟨k, hk1, hk2, rfl, bw, M⟩ := hrel
        by_cases hlt : k < 64
        · have d1 : decide ((k : Int) < 64) = true := by simp; omega
          have hsl := schA_length b k (by omega)
          have k15 := bw.cellv (wsA_get _ (k - 15) (by omega))
          have k2 := bw.cellv (wsA_get _ (k - 2) (by omega))
          have k16 := bw.cellv (wsA_get _ (k - 16) (by omega))
          have k7 := bw.cellv (wsA_get _ (k - 7) (by omega))
          have kw := bw.cellv (wsA_get _ k (by omega))
          have fw := bw.free k
          rw [schA_get b k _ (by omega)] at k15 k2 k16 k7
          have hset := wsA_set (schA b k) k (S.schN b (S.schTo b k) k)
          rw [schA_set b k hlt] at hset
          have hsn : S.schN b (S.schTo b k) k = _ := if_neg (by omega : ¬ k < 16)
          rw [hsn] at hset
          unfold w32 at hset
          have Hset := Lib.hid hset
          clear hset hsn
          have i15 : IntKind.i64.wrap ((k : Int) - 15) = ((k - 15 : Nat) : Int) := by rw [IntWalk.i64_in _ (by omega)]; omega
          have i2 : IntKind.i64.wrap ((k : Int) - 2) = ((k - 2 : Nat) : Int) := by rw [IntWalk.i64_in _ (by omega)]; omega
          have i16 : IntKind.i64.wrap ((k : Int) - 16) = ((k - 16 : Nat) : Int) := by rw [IntWalk.i64_in _ (by omega)]; omega
          have i7 : IntKind.i64.wrap ((k : Int) - 7) = ((k - 7 : Nat) : Int) := by rw [IntWalk.i64_in _ (by omega)]; omega
          have j15 : (0 : Int) ≤ ((k - 15 : Nat) : Int) := by omega
          have j15b : ((k - 15 : Nat) : Int) < 64 := by omega
          have j2 : (0 : Int) ≤ ((k - 2 : Nat) : Int) := by omega
          have j2b : ((k - 2 : Nat) : Int) < 64 := by omega
          have j16 : (0 : Int) ≤ ((k - 16 : Nat) : Int) := by omega
          have j16b : ((k - 16 : Nat) : Int) < 64 := by omega
          have j7 : (0 : Int) ≤ ((k - 7 : Nat) : Int) := by omega
          have j7b : ((k - 7 : Nat) : Int) < 64 := by omega
          have jk : (0 : Int) ≤ (k : Int) := by omega
          have jk2 : (k : Int) < 64 := by omega
          generalize (S.schTo b k).getD (k - 15) 0#32 = x at *
          generalize (S.schTo b k).getD (k - 2) 0#32 = y at *
          generalize (S.schTo b k).getD (k - 16) 0#32 = z at *
          generalize (S.schTo b k).getD (k - 7) 0#32 = t at *
          generalize k - 15 = n15 at *
          generalize k - 2 = n2 at *
          generalize k - 16 = n16 at *
          generalize k - 7 = n7 at *
          have q15 := cell_regrown k15
          go_wp2
          refine wp_region_quiet_below (by kernel_rfl) (by kernel_rfl) ?_
          repeat (first | fail | go_big_quiet_step (first | with_reducible exact calls_regrown _ (fun W _ => right_b x 7 7 rfl (by omega) (by omega) W) | with_reducible exact calls_regrown _ (fun W _ => right_b x 18 18 rfl (by omega) (by omega) W) | fail))
          refine wpQuiet_nil ?_
          intro w1 hw1
          obtain ⟨pp, hpp⟩ := hw1
          have hw1 : Below wr.heap.size wr w1 := hpp ▸ below_regrown _ _ _
          have hlo := M.siz
          clear hpp q15 k15
          replace bw := bw.at_ hw1
          replace M := M.at_ hw1
          replace k2 := (hw1.cell (p := ⟨w.heap.size + 1, n2, none⟩) (by simp; omega)).trans k2
          replace k16 := (hw1.cell (p := ⟨w.heap.size + 1, n16, none⟩) (by simp; omega)).trans k16
          replace k7 := (hw1.cell (p := ⟨w.heap.size + 1, n7, none⟩) (by simp; omega)).trans k7
          clear hw1 kw fw hlo
          generalize w1 = w2 at *
          have q2 := cell_regrown k2
          have hlo := M.siz
          go_wp2
          refine wp_region_quiet_below (by kernel_rfl) (by kernel_rfl) ?_
          repeat (first | fail | go_big_quiet_step (first | with_reducible exact calls_regrown _ (fun W _ => right_b y 17 17 rfl (by omega) (by omega) W) | with_reducible exact calls_regrown _ (fun W _ => right_b y 19 19 rfl (by omega) (by omega) W) | fail))
          refine wpQuiet_nil ?_
          intro w1 hw1
          obtain ⟨pp, hpp⟩ := hw1
          have hw1 : Below w2.heap.size w2 w1 := hpp ▸ below_regrown _ _ _
          clear hpp q2 k2
          replace bw := bw.at_ hw1
          replace M := M.at_ hw1
          replace k16 := (hw1.cell (p := ⟨w.heap.size + 1, n16, none⟩) (by simp; omega)).trans k16
          replace k7 := (hw1.cell (p := ⟨w.heap.size + 1, n7, none⟩) (by simp; omega)).trans k7
          have kw := bw.cellv (wsA_get _ k (by omega))
          have fw := bw.free k
          clear hw1 hlo
          generalize w1 = w3 at *
          generalize hs0 : S.rotr x 7 ^^^ S.rotr x 18 ^^^ x >>> 3 = s0 at *
          generalize hs1 : S.rotr y 17 ^^^ S.rotr y 19 ^^^ y >>> 10 = s1 at *
          have hE : z + S.ssig0 x + t + S.ssig1 y = z + s0 + t + s1 := by rw [← hs0, ← hs1]; rfl
          have HS := Hset.out
          rw [hE] at HS
          have HS2 := Lib.hid HS
          clear hs0 hs1 hE HS Hset
          go_wp2
          go_still_tail 15, (by kernel_rfl)
          change wpList _ _ _ _ _ w3.drew
          have kw2 : w3.drew.cell? ⟨w.heap.size + 1, k, none⟩ = _ := kw
          have fw2 : w3.drew.frozen? ⟨w.heap.size + 1, k, none⟩ = false := fw
          have b2 := bw.drew.set_ k (.int .u32 (uw (z + s0 + t + s1)))
          rw [HS2.out] at b2
          have M2 := M.drew.put ⟨w.heap.size + 1, k, none⟩ (Nat.le_refl _) (.int .u32 (uw (z + s0 + t + s1)))
          generalize z + s0 + t + s1 = E at *
          clear M bw kw fw k16 k7 i15 j15 j15b i2 j2 j2b i16 j16 j16b i7 j7 j7b jk jk2
          generalize w3.drew = w5 at *
          go_wp2
          go_roundw
          case rel => (repeat apply Exists.intro); exact ⟨⟨k + 1, by omega, by omega, by go_num, b2, M2⟩, rfl⟩
          case measure => simp [intOf]; omega
        · obtain rfl : k = 64 := by omega
          have e64 : schA b 64 = S.schTo b 64 := by simp [schA]
          have hl64 := schTo_length b 64
          rw [e64] at bw
          clear e64
          go_wp2_with (first | (refine wpList_load_blk (by rfl) 34 (.tmp 3) (by rfl) 0 (by rfl) (bw) (wsA (S.schTo b 64)) whole_at _ Try.underlying34 (by rfl) (size_w64 (S.schTo b 64) hl64) ?_; simp only [Act.put, List.setIfInBounds_toArray, List.set_cons_succ, List.set_cons_zero]) | ((refine wpList_store_blk (by rfl) 34 (.tmp 2) (.tmp 104) (by rfl) (0) (wsA (S.schTo b 64)) (by rfl) (by rfl) (M.out) ((by rw [wsA_size, wsA_size, hl64]; decide)) (size_w64 (S.schTo b 64) hl64) (wsA_all _) ?_; simp only [Act.put]); intro w9 b9 o9))
          rw [splice_all _ _ (by rw [wsA_size, wsA_size, hl64]; decide)] at b9
          exact bodyPost_ret (v := .agg (wsA (S.schTo b 64))) (results_blk (by rfl) _ b9 _ (by rfl) Try.underlying34 (by rfl) (size_w64 (S.schTo b 64) hl64)) rfl ⟨rfl, o9.below M.bel (Nat.le_refl _)⟩
end Go.Proofs.Ytgjmnhbkdccgpaa
