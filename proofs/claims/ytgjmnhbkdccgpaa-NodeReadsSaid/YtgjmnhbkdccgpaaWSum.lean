/- The walk of the program's own sum. -/
import Derived.Test.YtgjmnhbkdccgpaaWSteps
import Derived.Test.YtgjmnhbkdccgpaaPureSum
namespace Go.Proofs.Ytgjmnhbkdccgpaa
open Go.RowKit

theorem fresh_lab (w : World) : (Instr.alloc 25 true (.tuple #[])).run Try.prog w = .ok (.pointer (some ⟨w.heap.size, 0, none⟩)) (w.alloc (.cells (labA zlab) 25)) := by kernel_rfl
theorem size_lab (l : List UInt8) (h : l.length = 32) : (Try.prog.info? 25).map (·.size) = some (labA l).size := by rw [labA_size, h]; kernel_rfl
/-- What the walk of a sum keeps: the result's block, the state's. -/
structure Smg (w wr : World) (v : S.V8) : Prop where
  out : Blk wr w.heap.size (labA zlab) 25
  st : Blk wr (w.heap.size + 1) (wsA v.list) 92
  bel : Below w.heap.size w wr
  siz : w.heap.size + 2 ≤ wr.heap.size
theorem Smg.below {w wr w' : World} {v : S.V8} (h : Smg w wr v) (hb : Below (w.heap.size + 2) wr w') : Smg w w' v :=
  ⟨h.out.below hb (by omega), h.st.below hb (by omega), h.bel.trans (hb.mono (by omega)), Nat.le_trans h.siz hb.size⟩
theorem Smg.grown {w wr w' : World} {v u : S.V8} (h : Smg w wr v) (hs : Blk w' (w.heap.size + 1) (wsA u.list) 92) (hg : wr.grownBy w' (some (w.heap.size + 1))) : Smg w w' u :=
  ⟨h.out.grown hg (by intro e; injection e with e; omega), hs, below_grown h.bel (Nat.le_trans (by omega) h.siz) hg (fun k e => by injection e with e; omega), Nat.le_trans h.siz hg.size⟩
theorem cell_grown {w w' : World} {r : Option Nat} {g : Nat} (h : w.grownBy w' r) (hg : g < w.heap.size) (hne : some g ≠ r) (j : Nat) : w'.cell? ⟨g, j, none⟩ = w.cell? ⟨g, j, none⟩ := by
  simp only [World.cell?, h.block g hg hne]
theorem Smg.alloc {w wr : World} {v : S.V8} (h : Smg w wr v) (o : Obj) : Smg w (wr.alloc o) v := h.below ((Below.refl _ _).alloc h.siz o)
theorem new_byte (w : World) (b : UInt8) (x : Int) (hx : (b.toNat : Int) = x) (t : TypeId) : (w.alloc (.cells #[.int .u8 x] t)).cell? ⟨w.heap.size, 0, none⟩ = some (byteV b) := by
  subst hx
  rw [cell_of_row _ _ _ _ _ _ (heap_alloc_new w _)]; rfl
theorem blk_new1 (w : World) (o : Obj) (cs : Array Value) (t : TypeId) : Blk ((w.alloc o).alloc (.cells cs t)) (w.heap.size + 1) cs t := by
  have := Blk.new (w.alloc o) cs t
  rwa [World.size_alloc] at this
def slen : Value → Nat
  | .slice _ n _ => n
  | _ => 0
theorem MBuf.slen {B : Nat} {w : World} {v : Value} {xs : List UInt8} (h : MBuf B w v xs) : slen v = xs.length := by
  obtain ⟨g, cap, rfl, _⟩ := h.cell
  rfl
/-- The first bytes of a sum, noughts behind them. -/
def outL (V : S.V8) (k : Nat) : List UInt8 := (S.outB V).take k ++ List.replicate (32 - k) 0
theorem outL_0 (V : S.V8) : outL V 0 = zlab := by simp [outL, zlab]
theorem outL_32 (V : S.V8) : outL V 32 = S.outB V := by
  unfold outL
  rw [List.take_of_length_le (by rw [S.outB_length]; omega)]; simp
theorem outL_length (V : S.V8) (k : Nat) (h : k ≤ 32) : (outL V k).length = 32 := by
  unfold outL; rw [List.length_append, List.length_take, S.outB_length, List.length_replicate]; omega
theorem outL_set (V : S.V8) (k : Nat) (h : k < 32) : (outL V k).set k ((S.outB V).getD k 0) = outL V (k + 1) := by
  unfold outL
  have hl := S.outB_length V
  obtain ⟨m, hm⟩ : ∃ m, 32 - k = m + 1 := ⟨32 - k - 1, by omega⟩
  rw [hm, show 32 - (k + 1) = m from by omega, List.set_append_right _ _ (by rw [List.length_take]; omega), List.length_take, Nat.min_eq_left (by omega), Nat.sub_self, List.replicate_succ, List.set_cons_zero, List.take_succ_eq_append_getElem (by omega), List.append_assoc, List.getD_eq_getElem?_getD, List.getElem?_eq_getElem (by omega)]
  rfl
theorem word_byte (X : BitVec 32) (r : Nat) (h : r < 4) : uw X / 2 ^ (24 - 8 * (r : Int)).toNat = ((X.toNat / 256 ^ (3 - r) : Nat) : Int) := by
  unfold uw
  rw [show (24 - 8 * (r : Int)).toNat = 8 * (3 - r) from by omega, Nat.pow_mul 2 8 (3 - r) |> fun h => show ((2 : Int) ^ (8 * (3 - r))) = (((2 ^ 8) ^ (3 - r) : Nat) : Int) from by rw [← h]; simp, Int.natCast_ediv]
theorem sl_from (A : Addr) (n c k : Nat) (hk : k ≤ n) (w : World) : (Instr.slice 36 (.slice (some A) n c) (some (.int .i64 (k : Int))) none none).run Try.prog w = .ok (.slice (some (if c = k then A else A.add k)) (n - k) (c - k)) w := by
  have hs : ∀ w, (Go.sizeOf (Try.prog.elem 36)).run Try.prog w = .ok 1 w := fun w => by kernel_rfl
  rw [run_slice_l w 36 (some A) n c (by kernel_rfl) .i64 (k : Int) (by omega) (by omega), hs]
  simp only [Result.andThen_ok, sliced, Int.toNat_natCast, Nat.mul_one]
  by_cases h : c = k <;> simp [h]
theorem sl_upto (A : Addr) (n c k : Nat) (hk : k ≤ c) (w : World) : (Instr.slice 36 (.slice (some A) n c) none (some (.int .i64 (k : Int))) none).run Try.prog w = .ok (.slice (some A) k c) w := by
  have hs : ∀ w, (Go.sizeOf (Try.prog.elem 36)).run Try.prog w = .ok 1 w := fun w => by kernel_rfl
  rw [run_slice_h w 36 (some A) n c (by kernel_rfl) .i64 (k : Int) (by omega) (by omega), hs]
  simp only [Result.andThen_ok, sliced, Int.toNat_natCast, Nat.zero_mul, Nat.sub_zero]
  by_cases h : c = 0 <;> simp [h, Addr.add]
theorem snoc0 (l : List UInt8) (b : UInt8) (k : Nat) : l ++ b :: List.replicate k 0 ++ [0] = l ++ b :: List.replicate (k + 1) 0 := by
  rw [List.append_assoc, List.cons_append, ← List.replicate_succ']
set_option maxRecDepth 100000 in
set_option maxHeartbeats 1000000 in
theorem sum_any (l : List UInt8) (w : World) (hl : l.length ≤ 140737488355000) :
    Calls Try.prog 20 #[.string ⟨l.toArray⟩] w fun e w' => e = .returned (.agg (labA (S.sum l))) ∧ Below w.heap.size w w' := by
  have b0 := Blk.new w (labA zlab) 25
  have h0 := below_alloc1 w (.cells (labA zlab) 25)
  go_enter Try.func20, Try.ntmps20
  go_wp2_with (first | (refine wpList_fresh (by rfl) 25 (by rfl) _ fresh_lab ?_; simp only [Act.put, List.setIfInBounds_toArray, List.set_cons_succ, List.set_cons_zero]; try simp only [World.size_alloc]) | (refine wpList_build (by rfl) 92 ([(0, .const (.int .u32 1779033703)), (1, .const (.int .u32 3144134277)), (2, .const (.int .u32 1013904242)), (3, .const (.int .u32 2773480762)), (4, .const (.int .u32 1359893119)), (5, .const (.int .u32 2600822924)), (6, .const (.int .u32 528734635)), (7, .const (.int .u32 1541459225))]) (by rfl) ([(0, .int .u32 1779033703), (1, .int .u32 3144134277), (2, .int .u32 1013904242), (3, .int .u32 2773480762), (4, .int .u32 1359893119), (5, .int .u32 2600822924), (6, .int .u32 528734635), (7, .int .u32 1541459225)]) (by rfl) (.agg (wsA S.begin.list)) (build_begin) ?_; simp only [Act.put, List.setIfInBounds_toArray, List.set_cons_succ, List.set_cons_zero]) | (refine wpList_fresh (by rfl) 92 (by rfl) _ fresh_w8 ?_; simp only [Act.put, List.setIfInBounds_toArray, List.set_cons_succ, List.set_cons_zero]; try simp only [World.size_alloc]) | ((refine wpList_store_blk (by rfl) 92 (.tmp 3) (.tmp 9) (by rfl) (0) (wsA S.begin.list) (by rfl) (by rfl) ((blk_new1 _ _ _ _)) ((by rw [wsA_size, wsA_size]; decide)) (size_w8 S.begin.list rfl) (wsA_all _) ?_; simp only [Act.put]); intro w4 bs o4; obtain ⟨W, cap, z, hrun, hW1, hW2, hcap, hW3⟩ := bytes_blk l w4 36 Try.underlying36; clear hW2; rw [splice_all _ _ (by rw [wsA_size, wsA_size]; decide)] at bs; have M4 : Smg w w4 S.begin := ⟨((b0.alloc _).only o4 (by omega)), bs, o4.below (h0.alloc (by simp) _) (by omega), (by rw [o4.size]; simp)⟩; have MW := M4.below (hW1.mono M4.siz); have hB := MBuf.ofBlkF hW3 M4.siz hcap; clear b0 h0 bs o4 hW3 hW1 hcap) | (at_builtin; refine wpList_append_mb rfl (.tmp 11) (.tmp 12) 36 rfl Try.underlying36 rfl (hB.at_ (below_alloc1 _ _)) (Nat.le_trans MW.siz (by simp)) ⟨W.heap.size, 0, none⟩ 128 (by rfl) (new_byte W 128 128 (by decide) _) (by omega) ?_; intro v1 w1 hB1 hb1; have M1 := (MW.alloc _).below hb1; clear hB MW M4 hb1))
  go_loopw [4] (fun v wr => ∃ k : Nat, k ≤ S.noughts l.length ∧ MBuf (w.heap.size + 2) wr v (l ++ 128 :: List.replicate k 0) ∧ Smg w wr S.begin) (fun v _ => l.length + 1 + S.noughts l.length - slen v)
  case atStart => exact ⟨0, by omega, hB1, M1⟩
  case round =>
    clear hB1 M1
    obtain ⟨k, hk, hB, M⟩ := hrel
    have hnl := S.noughts_lt l.length
    have hxl : (l ++ 128 :: List.replicate k (0 : UInt8)).length = l.length + 1 + k := by simp; omega
    have htest := S.nought_test l.length k hk
    obtain ⟨g, cap, rfl, hg1, hg2, hle, hc⟩ := hB.cell
    obtain ⟨n, hn⟩ : ∃ n, n = (l ++ 128 :: List.replicate k (0 : UInt8)).length := ⟨_, rfl⟩
    rw [← hn] at hB hle hc hxl ⊢
    have Hn := Lib.hid hn
    clear hn
    by_cases hlast : k = S.noughts l.length
    · have ht : (n : Int) % 64 = 56 := by have := htest.2 hlast; omega
      have ht2 : ((n : Int) % 64 != 56) = false := by rw [ht]; rfl
      subst hlast
      have hnm : n ≤ 140737488355100 := by omega
      have Hxl := Lib.hid hxl
      clear htest hc hle hg1 hg2 hnl hk hxl
      go_wp2
      clear ht ht2
      go_loopw [4, 5] (fun v i wr => ∃ (j : Nat) (z : Int), j ≤ 8 ∧ z + 8 * j = 56 ∧ i = .int .i64 z ∧ MBuf (w.heap.size + 2) wr v (l ++ 128 :: List.replicate (S.noughts l.length) 0 ++ (S.be8 (8 * l.length)).take j) ∧ Smg w wr S.begin) (fun _ i _ => (intOf i + 8).toNat)
      case atStart => exact ⟨0, 56, by omega, by omega, rfl, by rw [List.take_zero, List.append_nil]; exact hB, M⟩
      case round =>
        clear hB M
        obtain ⟨j, z, hj, hz, rfl, hB, M⟩ := hrel
        obtain ⟨g, cap, rfl, hg1, hg2, hle, hc⟩ := hB.cell
        have hxl : (l ++ 128 :: List.replicate (S.noughts l.length) (0 : UInt8) ++ (S.be8 (8 * l.length)).take j).length = n + j := by rw [List.length_append, ← Hn.out, List.length_take, S.be8_length]; omega
        by_cases hlast : j = 8
        · subst hlast
          obtain rfl : z = -8 := by omega
          rw [List.take_of_length_le (by rw [S.be8_length]; omega)] at hB hc hle hxl ⊢
          have hP : l ++ 128 :: List.replicate (S.noughts l.length) (0 : UInt8) ++ S.be8 (8 * l.length) = S.padded l := by rfl
          rw [hP] at hB hc hle hxl ⊢
          have hPm := S.padded_mod l
          have HS := Lib.hid (S.sum_to l)
          have hLb : (S.padded l).length ≤ 140737488355328 := by omega
          clear hP hB hxl
          generalize S.padded l = P at *
          obtain ⟨L, hL⟩ : ∃ L, L = P.length := ⟨_, rfl⟩
          rw [← hL] at hc hle hPm hLb HS ⊢
          have HL := Lib.hid hL
          clear hL Hn Hxl
          go_wp2_with (first | (go_at_call 58; with_reducible refine (steps_any _).mono ?_; rintro e w1 ⟨rfl, hb1⟩) | (refine wpList_fresh (by rfl) 34 (by rfl) _ fresh_w64 ?_; simp only [Act.put, List.setIfInBounds_toArray, List.set_cons_succ, List.set_cons_zero]; try simp only [World.size_alloc]) | ((refine wpList_store_blk (by rfl) 34 (.tmp 6) (.tmp 35) (by rfl) (0) (wsA S.steps) (by rfl) (by rfl) ((Blk.new _ _ _)) ((by rw [wsA_size, wsA_size]; decide)) (size_w64 S.steps rfl) (wsA_all _) ?_; simp only [Act.put]); intro w5 b5 o5))
          rw [splice_all _ _ (by rw [wsA_size, wsA_size]; decide)] at b5
          have hb5 : Below wr.heap.size wr w5 := o5.below (hb1.alloc hb1.size _) hb1.size
          have M5 := M.below (hb5.mono M.siz)
          have hc5 : ∀ j, j < L → w5.cell? ⟨g, j, none⟩ = some (.int .u8 ((P.getD j 0).toNat : Int)) := fun j hj => (hb5.cell (p := ⟨g, j, none⟩) hg2).trans (hc j hj)
          have hg5 : g < w5.heap.size := Nat.lt_of_lt_of_le hg2 hb5.size
          have hgk : w.heap.size + 2 ≤ w1.heap.size := Nat.le_trans M.siz hb1.size
          have hMm : S.begin = S.mixTo P 0 := rfl
          rw [hMm] at M5
          clear M hc hb5 o5 hb1 hg2 hMm
          generalize w1.heap.size = gk at *
          go_loopw [4] (fun v wr => ∃ (k : Nat) (A : Addr), 64 * k ≤ L ∧ v = .slice (some A) (L - 64 * k) (cap - 64 * k) ∧ (64 * k < L → A = ⟨g, 64 * k, none⟩) ∧ Blk wr gk (wsA S.steps) 34 ∧ Smg w wr (S.mixTo P k) ∧ g < wr.heap.size ∧ ∀ j, j < L → wr.cell? ⟨g, j, none⟩ = some (.int .u8 ((P.getD j 0).toNat : Int))) (fun v _ => slen v)
          case atStart => exact ⟨0, _, by omega, rfl, fun _ => rfl, b5, M5, hg5, hc5⟩
          case round =>
            clear b5 M5 hc5 hg5
            obtain ⟨k, A, hk, rfl, hA, bk, M, hgl, hc⟩ := hrel
            by_cases hlt : 64 * k < L
            · obtain rfl := hA hlt
              obtain ⟨m, hm⟩ : ∃ m, m = L - 64 * k := ⟨_, rfl⟩
              obtain ⟨c2, hc2⟩ : ∃ c2, c2 = cap - 64 * k := ⟨_, rfl⟩
              rw [← hm, ← hc2]
              have hbs : ∀ j, j < 64 → wr.cell? ⟨g, 64 * k + j, none⟩ = some (.int .u8 ((((P.drop (64 * k)).take 64).getD j 0).toNat : Int)) := fun j hj => by
                rw [hc (64 * k + j) (by omega)]
                rw [List.getD_eq_getElem?_getD, List.getD_eq_getElem?_getD, List.getElem?_take_of_lt hj, List.getElem?_drop]
              have hm64 : 64 ≤ m := by omega
              have hmc : m ≤ c2 := by omega
              have e1 := sl_upto ⟨g, 64 * k, none⟩ m c2 64 (by omega)
              have e2 := sl_from ⟨g, 64 * k, none⟩ m c2 64 hm64
              have d1 : decide (0 < (m : Int)) = true := by simp; omega
              have hmx := fun w' (h : Blk w' gk (wsA S.steps) 34) (hs : Smg w w' (S.mixTo P k)) => mix_any (S.mixTo P k) ((P.drop (64 * k)).take 64) (w.heap.size + 1) g (64 * k) gk c2 w' hs.st h
              generalize hu : (if c2 = 64 then (⟨g, 64 * k, none⟩ : Addr) else (⟨g, 64 * k, none⟩ : Addr).add 64) = A2 at *
              have Hu := Lib.hid hu
              have Hm := Lib.hid hm
              have Hc2 := Lib.hid hc2
              clear hm hc2 hu
              go_wp2_with (go_at_call 59; with_reducible refine (hmx _ bk M hbs hgl).mono ?_; rintro e w6 ⟨rfl, hst, hgr⟩)
              go_roundw
              case rel => exact ⟨k + 1, A2, by omega, by rw [Hm.out, Hc2.out]; simp only [Nat.mul_add, Nat.mul_one, Nat.sub_sub]; rw [← Hu.out, Hc2.out]; by_cases h64 : cap - 64 * k = 64 <;> simp [h64, Addr.add], fun h => by rw [← Hu.out, if_neg (by have := Hc2.out; omega), Addr.add_mid]; rfl, bk.grown hgr (by intro e; injection e with e; omega), M.grown hst hgr, Nat.lt_of_lt_of_le hgl hgr.size, fun j hj => (cell_grown hgr hgl (by intro e; injection e with e; omega) j).trans (hc j hj)⟩
              case measure => have := Hm.out; simp only [slen]; omega
            · obtain rfl : 64 * k = L := by omega
              have d1 : decide ((0 : Int) < ((0 : Nat) : Int)) = false := by rfl
              rw [Nat.sub_self]
              have hk64 : 64 * k / 64 = k := by omega
              have HSk := HS.out
              rw [hk64] at HSk
              have HS2 := Lib.hid HSk
              have bs := M.st
              clear hk64 HSk HS HL hc hA bk
              generalize S.mixTo P k = V at *
              clear hlt hk hPm hLb hle
              go_wp2_with (refine wpList_fresh (by rfl) 25 (by rfl) _ fresh_lab ?_; simp only [Act.put, List.setIfInBounds_toArray, List.set_cons_succ, List.set_cons_zero]; try simp only [World.size_alloc])
              have bo : Blk (wr.alloc (.cells (labA zlab) 25)) wr.heap.size (labA (outL V 0)) 25 := by rw [outL_0]; exact Blk.new wr (labA zlab) 25
              have Mo := M.alloc (.cells (labA zlab) 25)
              have hsz := M.siz
              clear M bs
              generalize wr.alloc (.cells (labA zlab) 25) = wo at *
              generalize wr.heap.size = gO at *
              go_loopw [44] (fun i wz => ∃ k : Nat, k ≤ 32 ∧ i = .int .i64 (k : Int) ∧ Blk wz gO (labA (outL V k)) 25 ∧ Smg w wz V) (fun i _ => 32 - (intOf i).toNat)
              case atStart => exact ⟨0, by omega, rfl, bo, Mo⟩
              case round =>
                clear bo Mo
                obtain ⟨k, hk, rfl, bo, M⟩ := hrel
                by_cases hlt : k < 32
                · have d1 : decide ((k : Int) < 32) = true := by simp; omega
                  have ks := M.st.cellv (wsA_get V.list (k / 4) (by show k / 4 < 8; omega))
                  have ko := bo.cellv (labA_get (outL V k) k (by rw [outL_length _ _ hk]; exact hlt))
                  have fo := bo.free k
                  have hb := S.outB_getD V k hlt
                  have hset := outL_set V k hlt
                  rw [hb] at hset
                  have jk : (0 : Int) ≤ (k : Int) := by omega
                  have jk2 : (k : Int) < 32 := by omega
                  have hq : (k : Int) / 4 = ((k / 4 : Nat) : Int) := by omega
                  have hr : (k : Int) % 4 = ((k % 4 : Nat) : Int) := by omega
                  have hq1 : ((k / 4 : Nat) : Int) < 8 := by omega
                  have hr1 : ((k % 4 : Nat) : Int) < 4 := by omega
                  have hq0 : (0 : Int) ≤ ((k / 4 : Nat) : Int) := by omega
                  have hr0 : (0 : Int) ≤ ((k % 4 : Nat) : Int) := by omega
                  have hd := word_byte (V.list.getD (k / 4) 0#32) (k % 4) (by omega)
                  have h8 : ((UInt8.ofNat ((V.list.getD (k / 4) 0#32).toNat / 256 ^ (3 - k % 4))).toNat : Int) = (((V.list.getD (k / 4) 0#32).toNat / 256 ^ (3 - k % 4) : Nat) : Int) % 256 := by rw [UInt8.toNat_ofNat']; omega
                  have bp := blk_put bo k (UInt8.ofNat ((V.list.getD (k / 4) 0#32).toNat / 256 ^ (3 - k % 4)))
                  rw [h8, hset] at bp
                  have hz0 := Int.natCast_nonneg ((V.list.getD (k / 4) 0#32).toNat / 256 ^ (3 - k % 4))
                  generalize (V.list.getD (k / 4) 0#32).toNat / 256 ^ (3 - k % 4) = Z at *
                  generalize V.list.getD (k / 4) 0#32 = X at *
                  generalize k / 4 = qn at *
                  generalize k % 4 = rn at *
                  clear hb hset h8
                  have Mp := M.below (w' := wr.setCell ⟨gO, k, none⟩ (.int .u8 ((Z : Int) % 256))) ((Below.refl _ _).setCell (by simp; omega) _)
                  clear bo M
                  go_wp2
                  go_roundw
                  case rel => exact ⟨k + 1, by omega, by go_num, bp, Mp⟩
                  case measure => simp [intOf]; omega
                · obtain rfl : k = 32 := by omega
                  rw [outL_32, ← HS2.out] at bo
                  have hl32 := S.sum_length l
                  go_wp2_with (first | (refine wpList_load_blk (by rfl) 25 (.tmp 7) (by rfl) 0 (by rfl) (bo) (labA (S.sum l)) whole_at _ Try.underlying25 (by rfl) (size_lab (S.sum l) hl32) ?_; simp only [Act.put, List.setIfInBounds_toArray, List.set_cons_succ, List.set_cons_zero]) | ((refine wpList_store_blk (by rfl) 25 (.tmp 2) (.tmp 60) (by rfl) (0) (labA (S.sum l)) (by rfl) (by rfl) (M.out) ((by rw [labA_size, labA_size, hl32]; decide)) (size_lab (S.sum l) hl32) (labA_all _) ?_; simp only [Act.put]); intro w9 b9 o9))
                  rw [splice_all _ _ (by rw [labA_size, labA_size, hl32]; decide)] at b9
                  exact bodyPost_ret (v := .agg (labA (S.sum l))) (results_blk (by rfl) _ b9 _ (by rfl) Try.underlying25 (by rfl) (size_lab (S.sum l) hl32)) rfl ⟨rfl, o9.below M.bel (Nat.le_refl _)⟩
        · have hz0 : 0 ≤ z := by omega
          have hz1 : z ≤ 56 := by omega
          have hu : IntKind.u64.wrap (l.length : Int) = (l.length : Int) := by rw [IntKind.wrap_u64]; omega
          have hd : (8 * (l.length : Int)) / 2 ^ z.toNat = ((8 * l.length / 256 ^ (7 - j) : Nat) : Int) := by
            rw [show z.toNat = 8 * (7 - j) from by omega, Nat.pow_mul 2 8 (7 - j) |> fun h => show ((2 : Int) ^ (8 * (7 - j))) = (((2 ^ 8) ^ (7 - j) : Nat) : Int) from by rw [← h]; simp, Int.natCast_ediv]; rfl
          have hq : ((UInt8.ofNat (8 * l.length / 256 ^ (7 - j))).toNat : Int) = ((8 * l.length / 256 ^ (7 - j) : Nat) : Int) % 256 := by rw [UInt8.toNat_ofNat']; omega
          have Htk := Lib.hid (S.be8_take (8 * l.length) j (by omega))
          have hqn := Int.natCast_nonneg (8 * l.length / 256 ^ (7 - j))
          generalize 8 * l.length / 256 ^ (7 - j) = q at *
          generalize hX : l ++ 128 :: List.replicate (S.noughts l.length) (0 : UInt8) ++ (S.be8 (8 * l.length)).take j = X at *
          have HX := Lib.hid hX
          clear hX hc hle
          have hXl : X.length + 1 ≤ 140737488355328 := by omega
          have Hm := Lib.hid hxl
          obtain ⟨m, hm⟩ : ∃ m, m = X.length := ⟨_, rfl⟩
          rw [← hm] at hB ⊢
          have hmb : m + 1 ≤ 140737488355328 := by omega
          clear hxl hm
          go_wp2_with (at_builtin; refine wpList_append_mb rfl (.tmp 25) (.tmp 33) 36 rfl Try.underlying36 rfl (hB.at_ (below_alloc1 _ _)) (Nat.le_trans M.siz (by simp)) ⟨wr.heap.size, 0, none⟩ (UInt8.ofNat q) (by rfl) (new_byte wr _ _ hq _) hXl ?_; intro v1 w1 hB1 hb1; have M1 := (M.alloc _).below hb1; clear hB M hb1)
          go_roundw
          case rel => exact ⟨j + 1, z - 8, by omega, by omega, by rfl, by rw [Htk.out, ← List.append_assoc, HX.out]; exact hB1, M1⟩
          case measure => simp [intOf]; omega
    · have ht : ((n : Int) % 64 == 56) = false := by rw [beq_eq_false_iff_ne]; intro e; exact hlast (htest.1 (by omega))
      have ht2 : ((n : Int) % 64 != 56) = true := by rw [bne, ht]; rfl
      have hnb : n + 1 ≤ 140737488355328 := by omega
      clear htest hc
      go_wp2_with (at_builtin; refine wpList_append_mb rfl (.tmp 18) (.tmp 19) 36 rfl Try.underlying36 rfl (hB.at_ (below_alloc1 _ _)) (Nat.le_trans M.siz (by simp)) ⟨wr.heap.size, 0, none⟩ 0 (by rfl) (new_byte wr 0 0 (by decide) _) (by rw [← Hn.out]; exact hnb) ?_; intro v1 w1 hB1 hb1; have M1 := (M.alloc _).below hb1; clear hB M hb1)
      go_roundw
      case rel => exact ⟨k + 1, by omega, by rw [snoc0] at hB1; exact hB1, M1⟩
      case measure => rw [hB1.slen]; simp only [slen, List.length_append, List.length_singleton, ← Hn.out]; omega
end Go.Proofs.Ytgjmnhbkdccgpaa
