/- ChirographSpelled: a prefix goes as a number and a label, and comes back; what is read so and isn't in form is told. No condition. -/
import Derived.Test.YtokjmdlklhkjlaaWWrite
import Derived.Test.YtokjmdlklhkjlaaWRLab
import Derived.Test.YtokjmdlklhkjlaaPureBack
import Derived.Test.YtokjmdlklhkjlaaWHas
import Derived.Test.YtokjmdlklhkjlaaWNext
import Derived.Test.YtokjmdlklhkjlaaPureTurn
import Derived.Test.YtokjmdlklhkjlaaWHex2
import Derived.Test.YtokjmdlklhkjlaaOpenB
namespace Go.Proofs.Ytokjmdlklhkjlaa
open Go.ChangeShapes Go.WideShapes Go.ChangeAt Go.RowKit

def abLab : List UInt8 := 171 :: List.replicate 31 0
theorem abLab_length : abLab.length = 32 := by rfl
theorem build_ab (w : World) : (Instr.build 23 #[(0, .int .u8 171)]).run Try.prog w = .ok (.agg (labA abLab)) w := by kernel_rfl
def abHex : ByteArray := ⟨(B.hex abLab).toArray⟩
theorem abHex_size : ((abHex.size : Int) != 64) = false := by decide +kernel
theorem abHex_cut (w : World) : (Instr.slice 9 (.string abHex) none (some (.int .i64 2)) none).run Try.prog w = .ok (.string ⟨#[97, 98]⟩) w := by
  kernel_rfl
/-- What a prefix is spelled as is read as it. -/
theorem spelled_back (N : Nat) (hN : N ≤ 256) (p : List UInt8) (hp : p.length = 32) :
    ∃ k, D.number (D.numB N ++ p) ⟨0, 0⟩ = (N, ⟨k, 0⟩) ∧ D.label (D.numB N ++ p) ⟨k, 0⟩ = (p, ⟨k + 32, 0⟩) ∧ D.done (D.numB N ++ p) ⟨k + 32, 0⟩ = 0 ∧ (D.numB N ++ p).length = k + 32 ∧ k ≤ 9 := by
  have h1 := D.number_back [] p N (by omega)
  have h2 := D.label_back (D.numB N) p [] hp
  have h3 := D.done_end (D.numB N ++ p)
  have h8 := D.blen_le 8 N (by omega)
  rw [List.append_nil] at h2
  rw [List.length_append, hp] at h3
  refine ⟨(D.numB N).length, ?_, h2, h3, by rw [List.length_append, hp], by rw [D.numB_length]; omega⟩
  simpa using h1
set_option maxHeartbeats 2000000 in
theorem spelled_walk (l : List UInt8) (hl : l.length = 32) (n t : Int) (w : World) :
    Calls Try.prog 9 #[.agg (labA l), .int .i64 n, .int .i64 t] w fun e w' => e = .returned (.bool true) ∧ Below w.heap.size w w' := by
  have hz23 : ∀ x : List UInt8, x.length = 32 → (Try.prog.info? 23).map (·.size) = some (labA x).size := fun x hx => by rw [labA_size, hx]; kernel_rfl
  have hz29 : ∀ (k : Int) (m : List UInt8), m.length = 32 → (Try.prog.info? 29).map (·.size) = some (prefA k m).size := fun k m hm => by rw [prefA_size, hm]; kernel_rfl
  have bl := Blk.new w (labA l) 23
  have hB := below_alloc1 w (.cells (labA l) 23)
  have H1 := Lib.hid (cut_any l hl n)
  have H2 : Hid (∀ W, Calls Try.prog 30 #[.agg (labA abLab)] W fun e w' => e = .returned (.string abHex) ∧ Below W.heap.size W w') := Lib.hid (hex_any abLab abLab_length)
  have hx1 := abHex_size
  have hx2 := abHex_cut
  have hx3 : (abHex.size : Int) = 64 := by decide +kernel
  generalize abHex = AB at H2 hx1 hx2 hx3
  have hpl := B.cut_length l (min n.toNat 256)
  have hN : min n.toNat 256 ≤ 256 := Nat.min_le_right _ _
  generalize min n.toNat 256 = N at H1 hpl hN
  have hg0 := B.good_cut l N hN
  have hh0 := B.has_cut_self l N hN
  have Hbad := Lib.hid (fun t h1 h2 => B.turned_bad l N t h1 h2)
  have Hhas := Lib.hid (fun t h1 h2 => B.turned_hasnt l l N t h1 h2)
  generalize B.cut l N = p at H1 hpl hg0 hh0 Hbad Hhas
  have hg1 := fun W => good_any (N : Int) (by go_wf) p hpl W
  rw [hg0] at hg1
  have HG := Lib.hid hg1
  have hh1 := fun W => has_any (N : Int) (by go_wf) p l hpl hl W
  rw [hh0] at hh1
  have HH := Lib.hid hh1
  clear hg0 hh0 hg1 hh1
  obtain ⟨k, e1, e2, e3, e4, hk9⟩ := spelled_back N hN p hpl
  have E1 := Lib.hid e1
  have E2 := Lib.hid e2
  have E3 := Lib.hid e3
  have E4 := Lib.hid e4
  clear e1 e2 e3 e4
  go_enter Try.func9, Try.ntmps9
  go_wp2_with (first | (refine wpList_load_blk (by rfl) 23 (.tmp 3) (by rfl) 0 (by rfl) (bl) (labA l) whole_at _ Try.underlying23 (by rfl) (hz23 l hl) ?_; simp only [Act.put, List.setIfInBounds_toArray, List.set_cons_succ, List.set_cons_zero]) | (refine wpList_fresh (by rfl) 29 (by rfl) _ fresh_pref ?_; simp only [Act.put, List.setIfInBounds_toArray, List.set_cons_succ, List.set_cons_zero]; try simp only [World.size_alloc]) | (go_at_call 22; with_reducible refine (H1.out _).mono ?_; rintro e w1 ⟨rfl, hb1⟩; replace bl := bl.at_ hb1; replace hB := hB.trans (hb1.mono hB.size)) | ((refine wpList_store_blk (by rfl) 29 (.tmp 7) (.tmp 16) (by rfl) (0) (prefA N p) (by rfl) (by rfl) ((Blk.new _ _ _)) (by rw [prefA_size, prefA_size, hpl, zlab_length]; omega) (hz29 _ _ hpl) (prefA_all _ _) ?_; simp only [Act.put]); intro w2 bp o2; rw [splice_all _ _ (by rw [prefA_size, prefA_size, hpl, zlab_length])] at bp; have hlt0 := bl.lt; replace bl := (bl.alloc _).only o2 (by omega); replace hB := o2.below (hB.alloc hB.size _) (by have := hB.size; omega); have k0 := fun o => (bp.alloc o).cellv (prefA_0 _ _); have hlt1 := bp.lt; clear o2 hb1) | (go_at_call 27; with_reducible refine (number_any N (by omega) w2.heap.size _ [] _ (wst_new w2) (by simp)).mono ?_; rintro e w3 ⟨rfl, v3, hs3, ht3⟩; rw [List.nil_append] at hs3; have hv3 : ∀ b, b < w2.heap.size → v3.ownBlock ≠ some b := fun b hb => ht3.own_ne (by simp; omega) (by simp [Value.ownBlock]); replace bl := (bl.alloc _).wto ht3 (by omega) (by simp [Value.ownBlock]); replace bp := (bp.alloc _).wto ht3 (by omega) (by simp [Value.ownBlock]); replace hB := ht3.below (hB.alloc hB.size _) (by have := hB.size; simp; omega) hB.size (fun b hb => by simp [Value.ownBlock]); clear k0) | (refine wpList_load_blk (by rfl) 23 (.tmp 20) (by rfl) (1) (by rfl) (bp) (labA p) (prefA_lab N p) _ Try.underlying23 (by rfl) (hz23 p hpl) ?_; simp only [Act.put, List.setIfInBounds_toArray, List.set_cons_succ, List.set_cons_zero]) | (go_at_call 28; with_reducible refine (wlabel_any p hpl w2.heap.size v3 _ _ hs3 (by rw [D.numB_length]; have := D.blen_le 8 N (by omega); omega)).mono ?_; rintro e w4 ⟨rfl, v4, hs4, ht4⟩; have hz3 := ht3.kept.size; simp only [World.size_alloc] at hz3; replace bl := bl.wto ht4 (by omega) (hv3 _ (by omega)); replace bp := bp.wto ht4 (by omega) (hv3 _ (by omega)); replace hB := ht4.below hB hB.size (by omega) (fun b hb => hv3 b (by omega)); clear ht3 ht4) | (go_at_call 29; with_reducible refine (wdone_any w2.heap.size v4 _ _ hs4 (by rw [List.length_append, D.numB_length, hpl]; have := D.blen_le 8 N (by omega); omega)).mono ?_; rintro e w5 ⟨rfl, rfl⟩; clear hs3 hs4) | (refine wpList_build (by rfl) 23 [(0, .const (.int .u8 171))] (by rfl) [(0, .int .u8 171)] (by rfl) (.agg (labA abLab)) build_ab ?_; simp only [Act.put, List.setIfInBounds_toArray, List.set_cons_succ, List.set_cons_zero]) | (go_at_call 30; with_reducible refine (H2.out _).mono ?_; rintro e w6 ⟨rfl, hb6⟩; replace bl := bl.at_ hb6; replace bp := bp.at_ hb6; replace hB := hB.trans (hb6.mono hB.size); clear hb6))
  generalize D.numB N ++ p = s at E1 E2 E3 E4
  have hsl : s.length ≤ 65536 := by have := E4.out; omega
  have H5 := Lib.hid (ropen_any s hsl w6)
  have hn6 := fun W h => rnumber_any s (by omega) ⟨0, 0⟩ w6.heap.size W h
  rw [E1.out] at hn6
  have H6 := Lib.hid hn6
  have hn7 := fun W h => rlabel_any s (by omega) ⟨k, 0⟩ w6.heap.size W h
  rw [E2.out] at hn7
  have H7 := Lib.hid hn7
  have hn8 := fun W h => rdone_any s ⟨k + 32, 0⟩ w6.heap.size W h
  rw [E3.out] at hn8
  have H8 := Lib.hid hn8
  clear hn6 hn7 hn8 E1 E2 E3 E4 hsl
  go_wp2_with (first | (go_at_call 31; with_reducible refine (H5.out).mono ?_; rintro e w7 ⟨rfl, hr7, hb7, hz7⟩; have hl0 := bl.lt; have hl1 := bp.lt; replace bl := bl.at_ hb7; replace bp := bp.at_ hb7; replace hB := hB.trans (hb7.mono hB.size); clear hb7) | (go_at_call 32; with_reducible refine (H6.out _ hr7).mono ?_; rintro e w8 ⟨rfl, hr8, hg8⟩; replace bl := bl.grown hg8 (by simp; omega); replace bp := bp.grown hg8 (by simp; omega); have hz8 := hg8.size; replace hB := below_grown hB hB.size hg8 (by intro j hj; cases hj; omega); clear hg8) | (go_at_call 33; with_reducible refine (H7.out _ hr8).mono ?_; rintro e w9 ⟨rfl, hr9, hg9⟩; replace bl := bl.grown hg9 (by simp; omega); replace bp := bp.grown hg9 (by simp; omega); have hz9 := hg9.size; replace hB := below_grown hB hB.size hg9 (by intro j hj; cases hj; omega); clear hg9) | (refine wpList_build (by rfl) 29 ([(0, .tmp 44), (1, .tmp 46)]) (by rfl) ([(0, .int .i64 (N : Int)), (1, .agg (labA p))]) (by rfl) (.agg (prefA (N : Int) p)) (build_pref2 _ _ hpl) ?_; simp only [Act.put, List.setIfInBounds_toArray, List.set_cons_succ, List.set_cons_zero]) | (refine wpList_fresh (by rfl) 29 (by rfl) _ fresh_pref ?_; simp only [Act.put, List.setIfInBounds_toArray, List.set_cons_succ, List.set_cons_zero]; try simp only [World.size_alloc]) | ((refine wpList_store_blk (by rfl) 29 (.tmp 13) (.tmp 47) (by rfl) (0) (prefA N p) (by rfl) (by rfl) ((Blk.new _ _ _)) (by rw [prefA_size, prefA_size, hpl, zlab_length]; omega) (hz29 _ _ hpl) (prefA_all _ _) ?_; simp only [Act.put]); intro w10 bq o10; rw [splice_all _ _ (by rw [prefA_size, prefA_size, hpl, zlab_length])] at bq; have hl0 := bl.lt; have hl1 := bp.lt; replace bl := (bl.alloc _).only o10 (by omega); replace bp := (bp.alloc _).only o10 (by omega); replace hB := o10.below (hB.alloc hB.size _) (by have := hB.size; omega)))
  have hr10 : Rst w10 w6.heap.size s ⟨k + 32, 0⟩ := ⟨(hr9.blk.alloc _).only o10 (by have := hr9.blk.lt; omega), hr9.loc⟩
  have H9 := Lib.hid (H8.out _ hr10)
  have hneq : ∀ w, (binOp .neq 29 (.agg (prefA N p)) (.agg (prefA N p))).run Try.prog w = .ok (.bool false) w := fun w => by
    rw [neq29 _ _ _ _ hpl hpl (by go_wf) (by go_wf)]; simp
  clear hr7 hr8 hr9 hr10 o10 H5 H6 H7 H8 H1 H2 hx1 hx2 hx3 hk9 hv3
  have hl2 := bq.lt
  by_cases hT : t < (N : Int)
  · have d1 : decide (t < (N : Int)) = true := by simpa using hT
    go_wp2_with (first | (go_at_call 34; with_reducible refine (H9.out).mono ?_; rintro e w11 ⟨rfl, nd, rfl⟩; replace bl := bl.drewN nd; replace bp := bp.drewN nd; replace bq := bq.drewN nd; replace hB := below_drewN hB nd) | (refine wpList_load_blk (by rfl) 29 (.tmp 13) (by rfl) 0 (by rfl) (bq) (prefA N p) whole_at _ Try.underlying29 (by rfl) (hz29 _ p hpl) ?_; simp only [Act.put, List.setIfInBounds_toArray, List.set_cons_succ, List.set_cons_zero]) | (refine wpList_load_blk (by rfl) 29 (.tmp 7) (by rfl) 0 (by rfl) (bp) (prefA N p) whole_at _ Try.underlying29 (by rfl) (hz29 _ p hpl) ?_; simp only [Act.put, List.setIfInBounds_toArray, List.set_cons_succ, List.set_cons_zero]) | (refine wpList_load_blk (by rfl) 23 (.tmp 3) (by rfl) 0 (by rfl) (bl) (labA l) whole_at _ Try.underlying23 (by rfl) (hz23 l hl) ?_; simp only [Act.put, List.setIfInBounds_toArray, List.set_cons_succ, List.set_cons_zero]) | (refine wpList_bin (by rfl) .neq 29 29 (.tmp 52) (.tmp 53) (by rfl) (prefA N p) (prefA N p) (by rfl) (by rfl) guard29 (.bool false) (hneq) ?_; simp only [Act.put, List.setIfInBounds_toArray, List.set_cons_succ, List.set_cons_zero]) | (go_at_call 25; with_reducible refine (HG.out _).mono ?_; rintro e w12 ⟨rfl, hb12⟩; replace bl := bl.at_ hb12; replace bp := bp.at_ hb12; replace bq := bq.at_ hb12; replace hB := hB.trans (hb12.mono hB.size); clear hb12) | (go_at_call 23; with_reducible refine (HH.out _).mono ?_; rintro e w13 ⟨rfl, hb13⟩; replace bl := bl.at_ hb13; replace bp := bp.at_ hb13; replace bq := bq.at_ hb13; replace hB := hB.trans (hb13.mono hB.size); clear hb13; have k0 := bp.cellv (prefA_0 _ _)))
    go_ret
    exact ⟨rfl, hB⟩
  · by_cases hT2 : 255 < t
    · have d1 : decide (t < (N : Int)) = false := by simpa using hT
      have d2 : decide (255 < t) = true := by simpa using hT2
      go_wp2_with (first | (go_at_call 34; with_reducible refine (H9.out).mono ?_; rintro e w11 ⟨rfl, nd, rfl⟩; replace bl := bl.drewN nd; replace bp := bp.drewN nd; replace bq := bq.drewN nd; replace hB := below_drewN hB nd) | (refine wpList_load_blk (by rfl) 29 (.tmp 13) (by rfl) 0 (by rfl) (bq) (prefA N p) whole_at _ Try.underlying29 (by rfl) (hz29 _ p hpl) ?_; simp only [Act.put, List.setIfInBounds_toArray, List.set_cons_succ, List.set_cons_zero]) | (refine wpList_load_blk (by rfl) 29 (.tmp 7) (by rfl) 0 (by rfl) (bp) (prefA N p) whole_at _ Try.underlying29 (by rfl) (hz29 _ p hpl) ?_; simp only [Act.put, List.setIfInBounds_toArray, List.set_cons_succ, List.set_cons_zero]) | (refine wpList_load_blk (by rfl) 23 (.tmp 3) (by rfl) 0 (by rfl) (bl) (labA l) whole_at _ Try.underlying23 (by rfl) (hz23 l hl) ?_; simp only [Act.put, List.setIfInBounds_toArray, List.set_cons_succ, List.set_cons_zero]) | (refine wpList_bin (by rfl) .neq 29 29 (.tmp 52) (.tmp 53) (by rfl) (prefA N p) (prefA N p) (by rfl) (by rfl) guard29 (.bool false) (hneq) ?_; simp only [Act.put, List.setIfInBounds_toArray, List.set_cons_succ, List.set_cons_zero]) | (go_at_call 25; with_reducible refine (HG.out _).mono ?_; rintro e w12 ⟨rfl, hb12⟩; replace bl := bl.at_ hb12; replace bp := bp.at_ hb12; replace bq := bq.at_ hb12; replace hB := hB.trans (hb12.mono hB.size); clear hb12) | (go_at_call 23; with_reducible refine (HH.out _).mono ?_; rintro e w13 ⟨rfl, hb13⟩; replace bl := bl.at_ hb13; replace bp := bp.at_ hb13; replace bq := bq.at_ hb13; replace hB := hB.trans (hb13.mono hB.size); clear hb13; have k0 := bp.cellv (prefA_0 _ _)))
      go_ret
      exact ⟨rfl, hB⟩
    · obtain ⟨T, rfl⟩ := Int.eq_ofNat_of_zero_le (show 0 ≤ t by omega)
      have d1 : decide ((T : Int) < (N : Int)) = false := by simpa using hT
      have d2 : decide (255 < (T : Int)) = false := by simpa using hT2
      have hTN : N ≤ T := by omega
      have hT3 : T < 256 := by omega
      go_wp2_with (first | (go_at_call 34; with_reducible refine (H9.out).mono ?_; rintro e w11 ⟨rfl, nd, rfl⟩; replace bl := bl.drewN nd; replace bp := bp.drewN nd; replace bq := bq.drewN nd; replace hB := below_drewN hB nd) | (refine wpList_load_blk (by rfl) 29 (.tmp 13) (by rfl) 0 (by rfl) (bq) (prefA N p) whole_at _ Try.underlying29 (by rfl) (hz29 _ p hpl) ?_; simp only [Act.put, List.setIfInBounds_toArray, List.set_cons_succ, List.set_cons_zero]) | (refine wpList_load_blk (by rfl) 29 (.tmp 7) (by rfl) 0 (by rfl) (bp) (prefA N p) whole_at _ Try.underlying29 (by rfl) (hz29 _ p hpl) ?_; simp only [Act.put, List.setIfInBounds_toArray, List.set_cons_succ, List.set_cons_zero]) | (refine wpList_load_blk (by rfl) 23 (.tmp 3) (by rfl) 0 (by rfl) (bl) (labA l) whole_at _ Try.underlying23 (by rfl) (hz23 l hl) ?_; simp only [Act.put, List.setIfInBounds_toArray, List.set_cons_succ, List.set_cons_zero]) | (refine wpList_bin (by rfl) .neq 29 29 (.tmp 52) (.tmp 53) (by rfl) (prefA N p) (prefA N p) (by rfl) (by rfl) guard29 (.bool false) (hneq) ?_; simp only [Act.put, List.setIfInBounds_toArray, List.set_cons_succ, List.set_cons_zero]) | (go_at_call 25; with_reducible refine (HG.out _).mono ?_; rintro e w12 ⟨rfl, hb12⟩; replace bl := bl.at_ hb12; replace bp := bp.at_ hb12; replace bq := bq.at_ hb12; replace hB := hB.trans (hb12.mono hB.size); clear hb12) | (go_at_call 23; with_reducible refine (HH.out _).mono ?_; rintro e w13 ⟨rfl, hb13⟩; replace bl := bl.at_ hb13; replace bp := bp.at_ hb13; replace bq := bq.at_ hb13; replace hB := hB.trans (hb13.mono hB.size); clear hb13; have k0 := bp.cellv (prefA_0 _ _)))
      clear k0 hT hT2 d1 d2 H9 hneq HG HH
      have hG2 := fun W => good_any (N : Int) (by go_wf) (B.turned p T) (by rw [B.turned_length, hpl]) W
      rw [Hbad.out T hTN hT3] at hG2
      have HG := Lib.hid hG2
      have hH2 := fun W => has_any (N : Int) (by go_wf) (B.turned p T) l (by rw [B.turned_length, hpl]) hl W
      rw [Hhas.out T hTN hT3] at hH2
      have HH := Lib.hid hH2
      clear hG2 hH2 Hbad Hhas
      have k1 := bq.cellv (prefA_get (N : Int) p (T / 8) (by omega))
      have f1 := bq.free (1 + T / 8)
      have hq : (0 : Int) ≤ (T : Int) / 8 := by omega
      have hq2 : (T : Int) / 8 < 32 := by omega
      have hq3 : IntKind.i64.wrap ((T : Int) / 8) = (T : Int) / 8 := IntWalk.i64_in _ (by omega)
      have hq4 : ((T : Int) / 8).toNat = T / 8 := by omega
      have hq5 : (T : Int).tmod 8 = ((T % 8 : Nat) : Int) := by rw [Int.tmod_eq_emod_of_nonneg (by omega)]; omega
      have hq8 : (T : Int).tdiv 8 = (T : Int) / 8 := Int.tdiv_eq_ediv_of_nonneg (by omega)
      have hq6 : ((T % 8 : Nat) : Int) ≤ 8 := by omega
      have hs := B.shr_top (T % 8) (by omega)
      have hset := prefA_set (N : Int) p (T / 8) (p.getD (T / 8) 0 ^^^ UInt8.ofNat (2 ^ (7 - T % 8)))
      have Htl := Lib.hid (B.turned_length p T)
      change _ = prefA (N : Int) (B.turned p T) at hset
      unfold byteV at hset
      have hor := B.turned_byte p T
      have hx := (p.getD (T / 8) 0).toNat_lt
      have hbits := u8_xor_nat (p.getD (T / 8) 0).toNat (2 ^ (7 - T % 8)) hx (B.pow_lt _)
      rw [← hor] at hbits
      generalize (p.getD (T / 8) 0 ^^^ UInt8.ofNat (2 ^ (7 - T % 8))).toNat = Y at hset hor hbits
      clear hor
      generalize (p.getD (T / 8) 0).toNat = x at k1 hx hbits
      generalize 2 ^ (7 - T % 8) = V at hbits hs
      generalize T % 8 = R at hq5 hq6 hs
      have Hset := Lib.hid hset
      clear hset
      go_still_tail 11, (by kernel_rfl)
      clear hq hq2 hq3 hq4 hq5 hq6 hq8 hs hbits hx k1 f1
      change wpList _ _ _ _ _ w13.drew
      replace bl := bl.drew
      replace bq := bq.drew
      replace hB := hB.drew
      have hwl : w.heap.size < w9.heap.size := by omega
      have htl : (B.turned p T).length = 32 := by rw [Htl.out, hpl]
      have hT8 : T / 8 < p.length := by omega
      have Htl2 := Lib.hid (hz29 (N : Int) _ htl)
      clear htl hpl hlt0 hlt1 hz3 hz7 hz8 hz9 hl2 bp
      generalize w13.drew = w14 at bl bq hB
      have c5 := bq.cellv (prefA_get (N : Int) p (T / 8) hT8)
      have f5 := bq.free (1 + T / 8)
      have bq5 := bq.set_ (1 + T / 8) (.int .u8 (Y : Int))
      rw [Hset.out] at bq5
      have bl5 := bl.far (p := ⟨w9.heap.size, 1 + T / 8, none⟩) (by simp; omega) (.int .u8 (Y : Int))
      have hB5 := hB.setCell (p := ⟨w9.heap.size, 1 + T / 8, none⟩) (by simp; omega) (.int .u8 (Y : Int))
      clear bq bl hB
      go_wp2_with (first | (refine wpList_load_blk (by rfl) 29 (.tmp 13) (by rfl) 0 (by rfl) (bq5) (prefA N (B.turned p T)) whole_at _ Try.underlying29 (by rfl) (Htl2.out) ?_; simp only [Act.put, List.setIfInBounds_toArray, List.set_cons_succ, List.set_cons_zero]) | (refine wpList_load_blk (by rfl) 23 (.tmp 3) (by rfl) 0 (by rfl) (bl5) (labA l) whole_at _ Try.underlying23 (by rfl) (hz23 l hl) ?_; simp only [Act.put, List.setIfInBounds_toArray, List.set_cons_succ, List.set_cons_zero]) | (go_at_call 25; with_reducible refine (HG.out _).mono ?_; rintro e w15 ⟨rfl, hb15⟩; replace bl5 := bl5.at_ hb15; replace bq5 := bq5.at_ hb15; replace hB5 := hB5.trans (hb15.mono hB5.size); clear hb15) | (go_at_call 23; with_reducible refine (HH.out _).mono ?_; rintro e w16 ⟨rfl, hb16⟩; replace hB5 := hB5.trans (hb16.mono hB5.size); clear hb16))
      go_ret
      exact ⟨rfl, hB5⟩

theorem spelled_law : LawHolds 9 Try.f9 := by
  intro H enc W base args ds p hval hA
  rw [Try.params9] at hA hval
  obtain ⟨v0, vs0, d0, ds0, p0, q0, hargs, rfl, rfl, k0, r0⟩ := trodAll_cons hA
  obtain ⟨v1, vs1, d1, ds1, p1, q1, rfl, rfl, rfl, k1, r1⟩ := trodAll_cons r0
  obtain ⟨v2, vs2, d2, ds2, p2, q2, rfl, rfl, rfl, k2, r2⟩ := trodAll_cons r1
  obtain ⟨rfl, rfl, rfl⟩ := trodAll_nil r2
  obtain rfl : args = #[v0, v1, v2] := by cases args; simp_all
  obtain ⟨a, ha, rfl⟩ := open_lab (hval 0 23 v0 rfl rfl) k0
  obtain ⟨n, rfl, _, _, _⟩ := open_int Try.underlying3 (hval 1 3 v1 rfl rfl) k1
  obtain ⟨t, rfl, _, _, _⟩ := open_int Try.underlying3 (hval 2 3 v2 rfl rfl) k2
  exact spelled_walk a ha n t W

theorem spelled_lifted (os : Os) (started : os.Started) (H : Type) (enc : TypeId × Value → H) :
    ReturnsInHanded {} Try.checked os 9 .any (Rows.chirographSpelledSpec.pre6 enc Try.prog Try.f9 Rows.chirographSpelledRow.domain false) (Rows.chirographSpelledSpec.post enc Try.prog Try.f9 false true false false) :=
  lifted_of started (by kernel_rfl) Try.func9
    (ChangeSpec.witness6 (enc := enc) (C := Try.checked) false ⟨#[], #[.agg (labA zlab), .int .i64 0, .int .i64 0], []⟩ 8 (by kernel_rfl) (by kernel_rfl) (by kernel_rfl) (by kernel_rfl))
    rfl (by kernel_rfl) (fun ds h => by rw [Try.params9] at h; match ds, h with | [_, _, _], _ => rfl) (by rw [Try.params9]; exact of_decide_eq_true (by kernel_rfl)) spelled_law
theorem spelled_over : Rows.chirographSpelledRow.holds Try.pinned (OpenSpec.ofChange Rows.chirographSpelledSpec) :=
  OpenClaim.holds_of_wide 9 Try.f9 rfl rfl rfl rfl rfl rfl rfl ⟨rfl, rfl, rfl, rfl, rfl⟩ rfl rfl rfl rfl rfl (by kernel_rfl) Try.func9 (by kernel_rfl)
    (of_decide_eq_true (by kernel_rfl)) (by unfold Func.isWrapper; first | (rw [if_pos (by decide +kernel)]; kernel_rfl) | (rw [if_neg (by decide +kernel)]; exact ⟨rfl, rfl⟩))
    (fun os started H enc _ => spelled_lifted os started H enc)
/-- The statement. -/
theorem spelled_proved : Rows.ChirographSpelledSaid := spelled_over
#print axioms spelled_proved
end Go.Proofs.Ytokjmdlklhkjlaa
