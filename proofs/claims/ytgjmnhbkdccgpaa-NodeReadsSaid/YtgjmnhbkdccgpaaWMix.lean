/- The walk of (*sha.state).mix. -/
import Derived.Test.YtgjmnhbkdccgpaaWFour
import Derived.Test.YtgjmnhbkdccgpaaKit5
namespace Go.Proofs.Ytgjmnhbkdccgpaa
open Go.RowKit

/-- The words as far as they are there, noughts behind them. -/
def schA (b : List UInt8) (k : Nat) : List (BitVec 32) := S.schTo b k ++ List.replicate (64 - k) 0#32
theorem schTo_length (b : List UInt8) : ∀ k, (S.schTo b k).length = k
  | 0 => rfl
  | k + 1 => by rw [S.schTo, List.length_append, schTo_length b k]; rfl
theorem schA_length (b : List UInt8) (k : Nat) (h : k ≤ 64) : (schA b k).length = 64 := by unfold schA; rw [List.length_append, schTo_length, List.length_replicate]; omega
theorem schA_set (b : List UInt8) (k : Nat) (h : k < 64) : (schA b k).set k (S.schN b (S.schTo b k) k) = schA b (k + 1) := by
  unfold schA
  obtain ⟨m, hm⟩ : ∃ m, 64 - k = m + 1 := ⟨64 - k - 1, by omega⟩
  rw [hm, show 64 - (k + 1) = m from by omega, List.set_append_right _ _ (by rw [schTo_length]; omega), schTo_length, Nat.sub_self, List.replicate_succ, List.set_cons_zero, S.schTo, List.append_assoc]
  rfl
theorem schA_get (b : List UInt8) (k j : Nat) (h : j < k) : (schA b k).getD j 0#32 = (S.schTo b k).getD j 0#32 := by
  unfold schA
  rw [List.getD_eq_getElem?_getD, List.getElem?_append_left (by rw [schTo_length]; exact h), List.getD_eq_getElem?_getD]
theorem schA_zero (b : List UInt8) : schA b 0 = List.replicate 64 0#32 := by simp [schA, S.schTo]
theorem fresh_w64 (w : World) : (Instr.alloc 34 true (.tuple #[])).run Try.prog w = .ok (.pointer (some ⟨w.heap.size, 0, none⟩)) (w.alloc (.cells (wsA (List.replicate 64 0#32)) 34)) := by kernel_rfl
theorem fresh_w8 (w : World) : (Instr.alloc 92 true (.tuple #[])).run Try.prog w = .ok (.pointer (some ⟨w.heap.size, 0, none⟩)) (w.alloc (.cells (wsA (List.replicate 8 0#32)) 92)) := by kernel_rfl
theorem size_w8 (l : List (BitVec 32)) (h : l.length = 8) : (Try.prog.info? 92).map (·.size) = some (wsA l).size := by rw [wsA_size, h]; kernel_rfl
theorem size_w64 (l : List (BitVec 32)) (h : l.length = 64) : (Try.prog.info? 34).map (·.size) = some (wsA l).size := by rw [wsA_size, h]; kernel_rfl

/-- What the walk of a block knows: the block's bytes, the words, the state's block, the steps' constants. -/
structure Mixed (w wr : World) (gs gb ob gk : Nat) (b : List UInt8) (v : S.V8) : Prop where
  st : Blk wr gs (wsA v.list) 92
  ks : Blk wr gk (wsA S.steps) 34
  bs : ∀ j, j < 64 → wr.cell? ⟨gb, ob + j, none⟩ = some (.int .u8 ((b.getD j 0).toNat : Int))
  bel : Below w.heap.size w wr
  ls : gs < w.heap.size
  lk : gk < w.heap.size
  lb : gb < w.heap.size
section
variable {w wr : World} {gs gb ob gk : Nat} {b : List UInt8} {v : S.V8}
theorem Mixed.drew (h : Mixed w wr gs gb ob gk b v) : Mixed w wr.drew gs gb ob gk b v := ⟨h.st, h.ks, h.bs, h.bel.drew, h.ls, h.lk, h.lb⟩
theorem Mixed.drewN (h : Mixed w wr gs gb ob gk b v) (n : Nat) : Mixed w (wr.drewN n) gs gb ob gk b v := ⟨h.st, h.ks, h.bs, below_drewN h.bel n, h.ls, h.lk, h.lb⟩
theorem Mixed.put (h : Mixed w wr gs gb ob gk b v) (p : Addr) (hp : w.heap.size ≤ p.block) (x : Value) : Mixed w (wr.setCell p x) gs gb ob gk b v :=
  ⟨h.st.far (by have := h.ls; omega) x, h.ks.far (by have := h.lk; omega) x, fun j hj => (World.cell?_setCell_other wr p ⟨gb, ob + j, none⟩ x (fun e => by have := h.lb; rw [e] at hp; simp at hp; omega)).trans (h.bs j hj), h.bel.setCell hp x, h.ls, h.lk, h.lb⟩
theorem Mixed.at_ {w' : World} (h : Mixed w wr gs gb ob gk b v) (hb : Below w.heap.size wr w') : Mixed w w' gs gb ob gk b v :=
  ⟨h.st.below hb h.ls, h.ks.below hb h.lk, fun j hj => (hb.cell (p := ⟨gb, ob + j, none⟩) h.lb).trans (h.bs j hj), h.bel.trans hb, h.ls, h.lk, h.lb⟩
end
theorem uw_add4 (a b c d : BitVec 32) : (uw a + uw b + uw c + uw d) % (4294967296 : Int) = uw (a + b + c + d) := by
  unfold uw; simp only [BitVec.toNat_add]; omega
theorem uw_add3 (a b c : BitVec 32) : (uw a + uw b + uw c) % (4294967296 : Int) = uw (a + b + c) := by
  unfold uw; simp only [BitVec.toNat_add]; omega
theorem p_walk (A e f g X Y : BitVec 32) : ((uw A + bits .xor .u32 (uw (e &&& f)) (bits .and .u32 (bits .xor .u32 (if IntKind.u32.signed = true then -1 else IntKind.u32.max) (uw e)) (uw g)) + uw X) % (4294967296 : Int) + uw Y) % (4294967296 : Int) = uw (A + (e &&& f ^^^ ~~~e &&& g) + X + Y) := by
  rw [if_neg (by decide), uw_not, uw_and, uw_xor, uw_add3, uw_add']
theorem turn_b (x : BitVec 32) (n : Nat) (k : Int) (hk : k = (n : Int)) (h1 : 1 ≤ n) (h2 : n ≤ 31) (w : World) :
    Calls Try.prog 96 #[.int .u32 (uw x), .int .i64 k] w fun e w' => e = .returned (.int .u32 (uw (S.rotr x n))) ∧ Below w.heap.size w w' :=
  (turn_lit x n k hk h1 h2 w).mono fun _ _ h => ⟨h.1, h.2 ▸ Below.refl _ _⟩
theorem build_st (a b c d e f g h : BitVec 32) (w : World) : (Instr.build 92 #[(0, .int .u32 (uw a)), (1, .int .u32 (uw b)), (2, .int .u32 (uw c)), (3, .int .u32 (uw d)), (4, .int .u32 (uw e)), (5, .int .u32 (uw f)), (6, .int .u32 (uw g)), (7, .int .u32 (uw h))]).run Try.prog w = .ok (.agg (wsA [a, b, c, d, e, f, g, h])) w := by kernel_rfl
theorem st_cells {w : World} {g : Nat} {a b c d e f g' h : BitVec 32} {t : TypeId} (H : Blk w g (wsA (S.V8.list ⟨a, b, c, d, e, f, g', h⟩)) t) :
    w.cell? ⟨g, 0, none⟩ = some (.int .u32 (uw a)) ∧ w.cell? ⟨g, 1, none⟩ = some (.int .u32 (uw b)) ∧ w.cell? ⟨g, 2, none⟩ = some (.int .u32 (uw c)) ∧ w.cell? ⟨g, 3, none⟩ = some (.int .u32 (uw d))
    ∧ w.cell? ⟨g, 4, none⟩ = some (.int .u32 (uw e)) ∧ w.cell? ⟨g, 5, none⟩ = some (.int .u32 (uw f)) ∧ w.cell? ⟨g, 6, none⟩ = some (.int .u32 (uw g')) ∧ w.cell? ⟨g, 7, none⟩ = some (.int .u32 (uw h)) :=
  ⟨H.cellv rfl, H.cellv rfl, H.cellv rfl, H.cellv rfl, H.cellv rfl, H.cellv rfl, H.cellv rfl, H.cellv rfl⟩
/-- The words of a sum and what was added to the first of them. -/
def addL (l m : List (BitVec 32)) (k : Nat) : List (BitVec 32) := (List.range 8).map fun j => if j < k then l.getD j 0#32 + m.getD j 0#32 else l.getD j 0#32
theorem addL_set (l m : List (BitVec 32)) : ∀ (k : Nat), k < 8 → (addL l m k).set k (l.getD k 0#32 + m.getD k 0#32) = addL l m (k + 1)
  | 0, _ => rfl
  | 1, _ => rfl
  | 2, _ => rfl
  | 3, _ => rfl
  | 4, _ => rfl
  | 5, _ => rfl
  | 6, _ => rfl
  | 7, _ => rfl
  | _ + 8, h => absurd h (by omega)
theorem addL_get (l m : List (BitVec 32)) : ∀ (k : Nat), k < 8 → (addL l m k).getD k 0#32 = l.getD k 0#32
  | 0, _ => rfl
  | 1, _ => rfl
  | 2, _ => rfl
  | 3, _ => rfl
  | 4, _ => rfl
  | 5, _ => rfl
  | 6, _ => rfl
  | 7, _ => rfl
  | _ + 8, h => absurd h (by omega)
theorem addL_length (l m : List (BitVec 32)) (k : Nat) : (addL l m k).length = 8 := by simp [addL]
theorem addL_0 (v : S.V8) (m : List (BitVec 32)) : addL v.list m 0 = v.list := rfl
theorem addL_8 (v u : S.V8) : addL v.list u.list 8 = (v.add u).list := rfl
set_option maxRecDepth 100000 in
set_option maxHeartbeats 4000000 in
theorem mix_any (v : S.V8) (b : List UInt8) (gs gb ob gk cap : Nat) (w : World) (hs : Blk w gs (wsA v.list) 92) (hk : Blk w gk (wsA S.steps) 34)
    (hbs : ∀ j, j < 64 → w.cell? ⟨gb, ob + j, none⟩ = some (.int .u8 ((b.getD j 0).toNat : Int))) (hgb : gb < w.heap.size) :
    Calls Try.prog 59 #[.pointer (some ⟨gs, 0, none⟩), .slice (some ⟨gb, ob, none⟩) 64 cap, .pointer (some ⟨gk, 0, none⟩)] w fun e w' => e = .returned (.tuple #[]) ∧ Blk w' gs (wsA (S.mix v b).list) 92 ∧ w.grownBy w' (some gs) := by
  have b1 := Blk.new w (wsA (List.replicate 64 0#32)) 34
  have hB0 := below_alloc1 w (.cells (wsA (List.replicate 64 0#32)) 34)
  rw [← schA_zero b] at b1 hB0
  have hbs0 : ∀ j, j < 64 → (w.alloc (.cells (wsA (schA b 0)) 34)).cell? ⟨gb, ob + j, none⟩ = some (.int .u8 ((b.getD j 0).toNat : Int)) := fun j hj => (hB0.cell (p := ⟨gb, ob + j, none⟩) hgb).trans (hbs j hj)
  have M0 : Mixed w (w.alloc (.cells (wsA (schA b 0)) 34)) gs gb ob gk b v := ⟨hs.at_ hB0, hk.at_ hB0, hbs0, hB0, hs.lt, hk.lt, hgb⟩
  clear hbs0 hbs hB0
  go_enter Try.func59, Try.ntmps59
  go_wp2_with (refine wpList_fresh (by rfl) 34 (by rfl) _ fresh_w64 ?_; simp only [Act.put, List.setIfInBounds_toArray, List.set_cons_succ, List.set_cons_zero]; try simp only [World.size_alloc])
  rw [← schA_zero b]
  go_loopw [18] (fun i wr => ∃ k : Nat, k ≤ 16 ∧ i = .int .i64 (k : Int) ∧ Blk wr w.heap.size (wsA (schA b k)) 34 ∧ Mixed w wr gs gb ob gk b v) (fun i _ => 16 - (intOf i).toNat)
  case atStart => exact ⟨0, by omega, rfl, b1, M0⟩
  case round =>
    clear b1 M0
    obtain ⟨k, hk16, rfl, bw, M⟩ := hrel
    by_cases hlt : k < 16
    · have d1 : decide ((k : Int) < 16) = true := by simp; omega
      obtain ⟨p1, p2, p3, p4, p5, hf⟩ := word_four b k
      obtain ⟨y1, y2, y3, y4, y5, y6, y7, y8, y9, y10⟩ := hf
      have k0 := M.bs (4 * k) (by omega)
      have k1 := M.bs (4 * k + 1) (by omega)
      have k2 := M.bs (4 * k + 2) (by omega)
      have k3 := M.bs (4 * k + 3) (by omega)
      have kw := bw.cellv (wsA_get _ k (by rw [schA_length _ _ (by omega)]; omega))
      have fw := bw.free k
      have hset := wsA_set (schA b k) k (S.word b k)
      have hsn : S.schN b (S.schTo b k) k = S.word b k := by unfold S.schN; rw [if_pos hlt]
      rw [← hsn, schA_set b k (by omega), hsn] at hset
      unfold w32 at hset
      have hu : uw (S.word b k) = ((S.word b k).toNat : Int) := rfl
      rw [hu] at hset
      have Hset := Lib.hid hset
      clear hset hsn hu
      generalize (S.word b k).toNat = Y at *
      generalize (b.getD (4 * k) 0).toNat = c0 at *
      generalize (b.getD (4 * k + 1) 0).toNat = c1 at *
      generalize (b.getD (4 * k + 2) 0).toNat = c2 at *
      generalize (b.getD (4 * k + 3) 0).toNat = c3 at *
      have i0 : IntKind.i64.wrap (4 * (k : Int)) = ((4 * k : Nat) : Int) := by rw [IntWalk.i64_in _ (by omega)]; omega
      have i1 : IntKind.i64.wrap (((4 * k : Nat) : Int) + 1) = ((4 * k + 1 : Nat) : Int) := by rw [IntWalk.i64_in _ (by omega)]; omega
      have i2 : IntKind.i64.wrap (((4 * k : Nat) : Int) + 2) = ((4 * k + 2 : Nat) : Int) := by rw [IntWalk.i64_in _ (by omega)]; omega
      have i3 : IntKind.i64.wrap (((4 * k : Nat) : Int) + 3) = ((4 * k + 3 : Nat) : Int) := by rw [IntWalk.i64_in _ (by omega)]; omega
      have j0 : (0 : Int) ≤ ((4 * k : Nat) : Int) ∧ ((4 * k : Nat) : Int) < 64 := by omega
      have j1 : (0 : Int) ≤ ((4 * k + 1 : Nat) : Int) ∧ ((4 * k + 1 : Nat) : Int) < 64 := by omega
      have j2 : (0 : Int) ≤ ((4 * k + 2 : Nat) : Int) ∧ ((4 * k + 2 : Nat) : Int) < 64 := by omega
      have j3 : (0 : Int) ≤ ((4 * k + 3 : Nat) : Int) ∧ ((4 * k + 3 : Nat) : Int) < 64 := by omega
      generalize 4 * k + 1 = n1 at *
      generalize 4 * k + 2 = n2 at *
      generalize 4 * k + 3 = n3 at *
      generalize 4 * k = n0 at *
      obtain ⟨j0a, j0b⟩ := j0
      obtain ⟨j1a, j1b⟩ := j1
      obtain ⟨j2a, j2b⟩ := j2
      obtain ⟨j3a, j3b⟩ := j3
      have jk : (0 : Int) ≤ (k : Int) := by omega
      have jk2 : (k : Int) < 64 := by omega
      go_wp2
      go_still_tail 35, (by kernel_rfl)
      change wpList _ _ _ _ _ wr.drew
      have kw2 : wr.drew.cell? ⟨w.heap.size, k, none⟩ = _ := kw
      have fw2 : wr.drew.frozen? ⟨w.heap.size, k, none⟩ = false := fw
      have b2 := bw.drew.set_ k (.int .u32 (Y : Int))
      rw [Hset.out] at b2
      have M2 := M.drew.put ⟨w.heap.size, k, none⟩ (Nat.le_refl _) (.int .u32 (Y : Int))
      clear M bw kw fw k0 k1 k2 k3 y1 y2 y3 y4 y5 y6 y7 y8 y9 y10 i0 i1 i2 i3 j0a j0b j1a j1b j2a j2b j3a j3b jk jk2
      generalize wr.drew = w3 at *
      go_wp2
      exact ⟨⟨k + 1, by omega, by go_num, b2, M2⟩, by simp [intOf]; omega⟩
    · obtain rfl : k = 16 := by omega
      go_wp2
      go_loopw [8] (fun i wr => ∃ k : Nat, 16 ≤ k ∧ k ≤ 64 ∧ i = .int .i64 (k : Int) ∧ Blk wr w.heap.size (wsA (schA b k)) 34 ∧ Mixed w wr gs gb ob gk b v) (fun i _ => 64 - (intOf i).toNat)
      case atStart => exact ⟨16, by omega, by omega, rfl, bw, M⟩
      case round =>
        clear bw M
        obtain ⟨k, hk1, hk2, rfl, bw, M⟩ := hrel
        by_cases hlt : k < 64
        · have d1 : decide ((k : Int) < 64) = true := by simp; omega
          have hsl := schA_length b k (by omega)
          have k15 := bw.cellv (wsA_get _ (k - 15) (by omega))
          have k2 := bw.cellv (wsA_get _ (k - 2) (by omega))
          have k16 := bw.cellv (wsA_get _ (k - 16) (by omega))
          have k7 := bw.cellv (wsA_get _ (k - 7) (by omega))
          have kw := bw.cellv (wsA_get _ k (by omega))
          have fw := bw.free k
          rw [schA_get b k _ (by omega)] at k15 k2 k16 k7
          have hset := wsA_set (schA b k) k (S.schN b (S.schTo b k) k)
          rw [schA_set b k hlt] at hset
          have hsn : S.schN b (S.schTo b k) k = _ := if_neg (by omega : ¬ k < 16)
          rw [hsn] at hset
          unfold w32 at hset
          have Hset := Lib.hid hset
          clear hset hsn
          unfold S.ssig0 S.ssig1 at Hset
          have i15 : IntKind.i64.wrap ((k : Int) - 15) = ((k - 15 : Nat) : Int) := by rw [IntWalk.i64_in _ (by omega)]; omega
          have i2 : IntKind.i64.wrap ((k : Int) - 2) = ((k - 2 : Nat) : Int) := by rw [IntWalk.i64_in _ (by omega)]; omega
          have i16 : IntKind.i64.wrap ((k : Int) - 16) = ((k - 16 : Nat) : Int) := by rw [IntWalk.i64_in _ (by omega)]; omega
          have i7 : IntKind.i64.wrap ((k : Int) - 7) = ((k - 7 : Nat) : Int) := by rw [IntWalk.i64_in _ (by omega)]; omega
          have j15 : (0 : Int) ≤ ((k - 15 : Nat) : Int) := by omega
          have j15b : ((k - 15 : Nat) : Int) < 64 := by omega
          have j2 : (0 : Int) ≤ ((k - 2 : Nat) : Int) := by omega
          have j2b : ((k - 2 : Nat) : Int) < 64 := by omega
          have j16 : (0 : Int) ≤ ((k - 16 : Nat) : Int) := by omega
          have j16b : ((k - 16 : Nat) : Int) < 64 := by omega
          have j7 : (0 : Int) ≤ ((k - 7 : Nat) : Int) := by omega
          have j7b : ((k - 7 : Nat) : Int) < 64 := by omega
          have jk : (0 : Int) ≤ (k : Int) := by omega
          have jk2 : (k : Int) < 64 := by omega
          generalize (S.schTo b k).getD (k - 15) 0#32 = x at *
          generalize (S.schTo b k).getD (k - 2) 0#32 = y at *
          generalize (S.schTo b k).getD (k - 16) 0#32 = z at *
          generalize (S.schTo b k).getD (k - 7) 0#32 = t at *
          generalize k - 15 = n15 at *
          generalize k - 2 = n2 at *
          generalize k - 16 = n16 at *
          generalize k - 7 = n7 at *
          go_wp2
          go_quiet (fail)
          replace bw := bw.drewN nq
          replace M := M.drewN nq
          have k16' : (wr.drewN nq).cell? ⟨w.heap.size, n16, none⟩ = _ := k16
          have k7' : (wr.drewN nq).cell? ⟨w.heap.size, n7, none⟩ = _ := k7
          have kw' : (wr.drewN nq).cell? ⟨w.heap.size, k, none⟩ = _ := kw
          have fw' : (wr.drewN nq).frozen? ⟨w.heap.size, k, none⟩ = false := fw
          clear k16 k7 kw fw k15 k2
          generalize wr.drewN nq = w3 at *
          go_wp2
          refine wp_region_still_tail 29 (by kernel_rfl) (by kernel_rfl) ?_
          simp only [List.take_succ_cons, List.take_zero, List.drop_succ_cons, List.drop_zero]
          repeat (refine wpStill_step (fun K hK => ?_); go_simp; (first | with_reducible refine hK _ ?_ | with_reducible refine ⟨_, turn_lit _ 7 _ (by decide) (by omega) (by omega) _, hK _ ?_⟩ | with_reducible refine ⟨_, turn_lit _ 18 _ (by decide) (by omega) (by omega) _, hK _ ?_⟩ | with_reducible refine ⟨_, turn_lit _ 17 _ (by decide) (by omega) (by omega) _, hK _ ?_⟩ | with_reducible refine ⟨_, turn_lit _ 19 _ (by decide) (by omega) (by omega) _, hK _ ?_⟩); clear hK K)
          refine wpStill_nil ?_
          change wpList _ _ _ _ _ w3.drew
          have kw2 : w3.drew.cell? ⟨w.heap.size, k, none⟩ = _ := kw'
          have fw2 : w3.drew.frozen? ⟨w.heap.size, k, none⟩ = false := fw'
          have b2 := bw.drew.set_ k (.int .u32 (uw (z + (S.rotr x 7 ^^^ S.rotr x 18 ^^^ x >>> 3) + t + (S.rotr y 17 ^^^ S.rotr y 19 ^^^ y >>> 10))))
          rw [Hset.out] at b2
          have M2 := M.drew.put ⟨w.heap.size, k, none⟩ (Nat.le_refl _) (.int .u32 (uw (z + (S.rotr x 7 ^^^ S.rotr x 18 ^^^ x >>> 3) + t + (S.rotr y 17 ^^^ S.rotr y 19 ^^^ y >>> 10))))
          generalize z + (S.rotr x 7 ^^^ S.rotr x 18 ^^^ x >>> 3) + t + (S.rotr y 17 ^^^ S.rotr y 19 ^^^ y >>> 10) = E at *
          clear M bw kw' fw' k16' k7' i15 j15 j15b i2 j2 j2b i16 j16 j16b i7 j7 j7b jk jk2
          generalize w3.drew = w5 at *
          go_wp2
          go_roundw
          case rel => (repeat apply Exists.intro); exact ⟨⟨k + 1, by omega, by omega, by go_num, b2, M2⟩, rfl⟩
          case measure => simp [intOf]; omega
        · obtain rfl : k = 64 := by omega
          have e64 : schA b 64 = S.schTo b 64 := by simp [schA]
          rw [e64] at bw
          clear e64
          have hgv := bw.lt
          go_wp2_with (first | (refine wpList_load_blk (by rfl) 92 (.tmp 99) (by rfl) 0 (by rfl) (M.st) (wsA v.list) whole_at _ Try.underlying92 (by rfl) (size_w8 v.list rfl) ?_; simp only [Act.put, List.setIfInBounds_toArray, List.set_cons_succ, List.set_cons_zero]) | (refine wpList_fresh (by rfl) 92 (by rfl) _ fresh_w8 ?_; simp only [Act.put, List.setIfInBounds_toArray, List.set_cons_succ, List.set_cons_zero]; try simp only [World.size_alloc]) | ((refine wpList_store_blk (by rfl) 92 (.tmp 11) (.tmp 100) (by rfl) (0) (wsA v.list) (by rfl) (by rfl) ((Blk.new _ _ _)) ((by rw [wsA_size, wsA_size]; simp [S.V8.list])) (size_w8 v.list rfl) (wsA_all _) ?_; simp only [Act.put]); intro w4 bv o4))
          rw [splice_all _ _ (by rw [wsA_size, wsA_size]; simp [S.V8.list])] at bv
          have M4 := M.at_ ((o4.below (below_alloc1 _ _) (Nat.le_refl _)).mono M.bel.size)
          have bw4 := (bw.alloc (.cells (wsA (List.replicate 8 0#32)) 92)).only o4 (by omega)
          have hszw := M.bel.size
          clear o4 M bw
          generalize wr.heap.size = gV at *
          go_loopw [101] (fun i wz => ∃ k : Nat, k ≤ 64 ∧ i = .int .i64 (k : Int) ∧ Blk wz gV (wsA (S.rndTo v (S.schTo b 64) k).list) 92 ∧ Blk wz w.heap.size (wsA (S.schTo b 64)) 34 ∧ Mixed w wz gs gb ob gk b v) (fun i _ => 64 - (intOf i).toNat)
          case atStart => exact ⟨0, by omega, rfl, bv, bw4, M4⟩
          case round =>
            clear bv bw4 M4
            obtain ⟨k, hk64, rfl, bV, bW, M⟩ := hrel
            by_cases hlt : k < 64
            · have d1 : decide ((k : Int) < 64) = true := by simp; omega
              have hr : S.rndTo v (S.schTo b 64) (k + 1) = S.rnd (S.rndTo v (S.schTo b 64) k) (S.steps.getD k 0#32) ((S.schTo b 64).getD k 0#32) := rfl
              have kc := M.ks.cellv (wsA_get S.steps k (by rw [show S.steps.length = 64 from rfl]; omega))
              have kw := bW.cellv (wsA_get (S.schTo b 64) k (by rw [schTo_length]; omega))
              generalize hu0 : S.rndTo v (S.schTo b 64) (k + 1) = u2 at *
              have hu2 := Lib.hid hu0
              clear hu0
              generalize S.rndTo v (S.schTo b 64) k = u at *
              generalize S.steps.getD k 0#32 = X at *
              generalize (S.schTo b 64).getD k 0#32 = Y at *
              obtain ⟨ua, ub, uc, ud, ue, uf, ug, uh⟩ := u
              have jk : (0 : Int) ≤ (k : Int) := by omega
              have jk2 : (k : Int) < 64 := by omega
              obtain ⟨v0, v1, v2, v3, v4, v5, v6, v7⟩ := st_cells bV
              obtain ⟨P, hP0⟩ : ∃ P, P = uh + (S.rotr ue 6 ^^^ S.rotr ue 11 ^^^ S.rotr ue 25) + (ue &&& uf ^^^ ~~~ue &&& ug) + X + Y := ⟨_, rfl⟩
              obtain ⟨Q, hQ0⟩ : ∃ Q, Q = (S.rotr ua 2 ^^^ S.rotr ua 13 ^^^ S.rotr ua 22) + (ua &&& ub ^^^ ua &&& uc ^^^ ub &&& uc) := ⟨_, rfl⟩
              have hr2 : u2 = ⟨P + Q, ua, ub, uc, ud + P, ue, uf, ug⟩ := by rw [hr, hP0, hQ0]; rfl
              have hP := Lib.hid hP0
              have hQ := Lib.hid hQ0
              clear hr hP0 hQ0
              go_wp2
              go_quiet (fail)
              replace bV := bV.drewN nq
              replace bW := bW.drewN nq
              replace M := M.drewN nq
              have kc : (wr.drewN nq).cell? ⟨gk, k, none⟩ = _ := kc
              have kw : (wr.drewN nq).cell? ⟨w.heap.size, k, none⟩ = _ := kw
              obtain ⟨v0, v1, v2, v3, v4, v5, v6, v7⟩ := st_cells bV
              generalize wr.drewN nq = w2 at *
              have q5 := cell_regrown v5
              have q6 := cell_regrown v6
              have q7 := cell_regrown v7
              have qc := cell_regrown kc
              have qw := cell_regrown kw
              go_wp2
              refine wp_region_quiet_below (by kernel_rfl) (by kernel_rfl) ?_
              repeat (first | fail | go_big_quiet_step (first | with_reducible exact calls_regrown _ (fun W _ => turn_b ue 6 6 rfl (by omega) (by omega) W) | with_reducible exact calls_regrown _ (fun W _ => turn_b ue 11 11 rfl (by omega) (by omega) W) | with_reducible exact calls_regrown _ (fun W _ => turn_b ue 25 25 rfl (by omega) (by omega) W) | fail))
              refine wpQuiet_nil ?_
              intro w1 hw1
              rw [p_walk, ← hP.out]
              obtain ⟨pp, hpp⟩ := hw1
              have hw1 : Below w2.heap.size w2 w1 := hpp ▸ below_regrown _ _ _
              clear hpp
              replace bV := bV.at_ hw1
              replace bW := bW.at_ hw1
              replace M := M.at_ (hw1.mono M.bel.size)
              obtain ⟨v0, v1, v2, v3, v4, v5, v6, v7⟩ := st_cells bV
              clear hw1 kc kw qc qw q5 q6 q7
              generalize w1 = w4 at *
              have q1 := cell_regrown v1
              have q2 := cell_regrown v2
              go_wp2
              refine wp_region_quiet_below (by kernel_rfl) (by kernel_rfl) ?_
              repeat (first | fail | go_big_quiet_step (first | with_reducible exact calls_regrown _ (fun W _ => turn_b ua 2 2 rfl (by omega) (by omega) W) | with_reducible exact calls_regrown _ (fun W _ => turn_b ua 13 13 rfl (by omega) (by omega) W) | with_reducible exact calls_regrown _ (fun W _ => turn_b ua 22 22 rfl (by omega) (by omega) W) | fail))
              refine wpQuiet_nil ?_
              intro w1 hw1
              simp only [← hQ.out]
              obtain ⟨pp, hpp⟩ := hw1
              have hw1 : Below w4.heap.size w4 w1 := hpp ▸ below_regrown _ _ _
              clear hpp
              replace bV := bV.at_ hw1
              replace bW := bW.at_ hw1
              replace M := M.at_ (hw1.mono M.bel.size)
              obtain ⟨v0, v1, v2, v3, v4, v5, v6, v7⟩ := st_cells bV
              clear hw1 q1 q2
              generalize w1 = w5 at *
              have eu : S.V8.list u2 = [P + Q, ua, ub, uc, ud + P, ue, uf, ug] := by rw [hr2]; rfl
              go_wp2_with (first | (refine wpList_build (by rfl) 92 ([(0, .tmp 166), (1, .tmp 167), (2, .tmp 169), (3, .tmp 171), (4, .tmp 175), (5, .tmp 176), (6, .tmp 178), (7, .tmp 180)]) (by rfl) ([(0, .int .u32 (uw (P + Q))), (1, .int .u32 (uw ua)), (2, .int .u32 (uw ub)), (3, .int .u32 (uw uc)), (4, .int .u32 (uw (ud + P))), (5, .int .u32 (uw ue)), (6, .int .u32 (uw uf)), (7, .int .u32 (uw ug))]) (by rfl) (.agg (wsA [P + Q, ua, ub, uc, ud + P, ue, uf, ug])) (build_st _ _ _ _ _ _ _ _) ?_; simp only [Act.put, List.setIfInBounds_toArray, List.set_cons_succ, List.set_cons_zero]) | ((refine wpList_store_blk (by rfl) 92 (.tmp 11) (.tmp 181) (by rfl) (0) (wsA [P + Q, ua, ub, uc, ud + P, ue, uf, ug]) (by rfl) (by rfl) (bV) ((by rw [wsA_size, wsA_size]; simp [S.V8.list])) (size_w8 [P + Q, ua, ub, uc, ud + P, ue, uf, ug] rfl) (wsA_all _) ?_; simp only [Act.put]); intro w6 bv o6))
              rw [splice_all _ _ (by rw [wsA_size, wsA_size]; rfl), ← eu, ← hu2.out] at bv
              replace bW := bW.only o6 (by omega)
              replace M := M.at_ (o6.below (Below.refl _ _) hszw)
              clear bV v0 v1 v2 v3 v4 v5 v6 v7 eu hP hQ o6
              go_wp2
              go_roundw
              case rel => (repeat apply Exists.intro); exact ⟨⟨k + 1, by omega, by go_num, bv, bW, M⟩, rfl⟩
              case measure => simp [intOf]; omega
            · obtain rfl : k = 64 := by omega
              have hG : w.grownBy wr (some gs) := ⟨M.bel.os, M.bel.tape, M.bel.output, M.bel.size, fun i hi _ => M.bel.block i hi⟩
              have bS := M.st
              have hgs := M.ls
              rw [← addL_0 v (S.rndTo v (S.schTo b 64) 64).list] at bS
              have hm : S.mix v b = v.add (S.rndTo v (S.schTo b 64) 64) := rfl
              generalize S.rndTo v (S.schTo b 64) 64 = u at *
              clear M bW
              go_wp2
              go_loopw [183] (fun i wz => ∃ k : Nat, k ≤ 8 ∧ i = .int .i64 (k : Int) ∧ Blk wz gV (wsA u.list) 92 ∧ Blk wz gs (wsA (addL v.list u.list k)) 92 ∧ w.grownBy wz (some gs)) (fun i _ => 8 - (intOf i).toNat)
              case atStart => exact ⟨0, by omega, rfl, bV, bS, hG⟩
              case round =>
                clear bV bS hG
                obtain ⟨k, hk8, rfl, bV, bS, hG⟩ := hrel
                by_cases hlt : k < 8
                · have d1 : decide ((k : Int) < 8) = true := by simp; omega
                  have jk : (0 : Int) ≤ (k : Int) := by omega
                  have jk2 : (k : Int) < 8 := by omega
                  have ks := bS.cellv (wsA_get (addL v.list u.list k) k (by rw [addL_length]; omega))
                  have kv := bV.cellv (wsA_get u.list k (by show k < 8; omega))
                  rw [addL_get _ _ k hlt] at ks
                  have fs := bS.free k
                  have hset := wsA_set (addL v.list u.list k) k (v.list.getD k 0#32 + u.list.getD k 0#32)
                  rw [addL_set _ _ k hlt] at hset
                  unfold w32 at hset
                  have Hset := Lib.hid hset
                  clear hset
                  generalize v.list.getD k 0#32 = X at *
                  generalize u.list.getD k 0#32 = Y at *
                  go_wp2
                  go_still_tail 11, (by kernel_rfl)
                  change wpList _ _ _ _ _ wr.drew
                  have ks2 : wr.drew.cell? ⟨gs, k, none⟩ = _ := ks
                  have fs2 : wr.drew.frozen? ⟨gs, k, none⟩ = false := fs
                  have b2 := bS.drew.set_ k (.int .u32 (uw (X + Y)))
                  rw [Hset.out] at b2
                  have c2 := bV.drew.far (p := ⟨gs, k, none⟩) (by simp; omega) (.int .u32 (uw (X + Y)))
                  have g2 : w.grownBy (wr.drew.setCell ⟨gs, k, none⟩ (.int .u32 (uw (X + Y)))) (some gs) := ⟨hG.os, hG.tape, hG.output, by simp only [World.setCell, Array.size_modify]; exact hG.size, fun i hi hne => (Below.heap_setCell wr.drew _ _ i (fun e => hne (by rw [e]))).trans (hG.block i hi hne)⟩
                  clear bS bV hG ks kv fs jk jk2
                  generalize X + Y = Z at *
                  generalize wr.drew = w7 at *
                  go_wp2
                  go_roundw
                  case rel => (repeat apply Exists.intro); exact ⟨⟨k + 1, by omega, by go_num, c2, b2, g2⟩, rfl⟩
                  case measure => simp [intOf]; omega
                · obtain rfl : k = 8 := by omega
                  rw [addL_8, ← hm] at bS
                  go_wp2
                  go_end0
                  exact ⟨rfl, bS, hG⟩
end Go.Proofs.Ytgjmnhbkdccgpaa
