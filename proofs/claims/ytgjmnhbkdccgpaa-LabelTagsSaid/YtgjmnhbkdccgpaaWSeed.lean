/- The walks of package label's text, Good, Seed, and of the document's Text, Error. -/
import Derived.Test.YtgjmnhbkdccgpaaWWText
import Derived.Test.YtgjmnhbkdccgpaaWNCheck
import Derived.Test.YtgjmnhbkdccgpaaWRCheck
import Derived.Test.YtgjmnhbkdccgpaaWMac
import Derived.Test.YtgjmnhbkdccgpaaShaAwake
namespace Go.Proofs.Ytgjmnhbkdccgpaa
open Go.RowKit

namespace L
/-- The error of an identity and a version. -/
def errT (id : List UInt8) (v : Int) : Nat := if (N.check id).2 ≠ 0 then (N.check id).2 else if v < 0 ∨ 1073741824 < v then 1 else 0
/-- What a seed is made of. -/
def text (id : List UInt8) (v : Int) : List UInt8 := D.textB id ++ D.numB v.toNat
def good (key : List UInt8) : Bool := decide (1 ≤ key.length) && decide (key.length ≤ 64)
def err (key id : List UInt8) (v : Int) : Nat := if good key then errT id v else 1
def seed (key id : List UInt8) (v : Int) : List UInt8 := if err key id v = 0 then S.mac key (text id v) else zlab
theorem seed_length (key id : List UInt8) (v : Int) : (seed key id v).length = 32 := by
  unfold seed
  split
  · exact S.mac_length ..
  · rfl
theorem chk_le (l : List (Nat × Nat × Nat)) : ∀ n last len, (N.chk l n last len).2 ≤ 5 := by
  induction l with
  | nil => intro n last len; rw [N.chk]; split <;> simp only <;> omega
  | cons r t ih =>
    intro n last len
    rw [N.chk]
    repeat' split
    all_goals first | exact ih _ _ _ | (simp only; omega)
theorem check_le (s : List UInt8) : (N.check s).2 ≤ 5 := by
  unfold N.check
  split
  · decide
  · exact chk_le ..
theorem errT_le (id : List UInt8) (v : Int) : errT id v ≤ 5 := by
  have := check_le id
  unfold errT
  repeat' split
  all_goals omega
theorem text_length (id : List UInt8) (v : Int) (hid : id.length ≤ 60000) (hv : v ≤ 1073741824) : (text id v).length ≤ 60100 := by
  have h1 := D.numB_le9 id.length (by omega)
  have h2 := D.numB_le9 v.toNat (by omega)
  unfold text D.textB
  rw [List.length_append, List.length_append]
  omega
theorem errT_zero {id : List UInt8} {v : Int} (h : errT id v = 0) : 0 ≤ v ∧ v ≤ 1073741824 := by
  unfold errT at h
  split at h
  · omega
  · split at h
    · omega
    · omega
end L
theorem build_labz (w : World) : (Instr.build 25 #[]).run Try.prog w = .ok (.agg (labA zlab)) w := by kernel_rfl
set_option maxRecDepth 100000 in
set_option maxHeartbeats 1000000 in
theorem good_any (key : List UInt8) (w : World) :
    Calls Try.prog 33 #[.string ⟨key.toArray⟩] w fun e w' => e = .returned (.bool (L.good key)) ∧ w = w' := by
  by_cases h0 : key = []
  · subst h0
    go_enter Try.func33, Try.ntmps33
    go_wp2
    go_ret
    exact ⟨rfl, rfl⟩
  · have he : key.isEmpty = false := by simpa using h0
    have hg : L.good key = decide ((key.length : Int) ≤ 64) := by
      have := List.length_pos_iff.2 h0
      unfold L.good
      rw [decide_eq_true (show 1 ≤ key.length by omega), Bool.true_and]
      rw [Bool.eq_iff_iff, decide_eq_true_iff, decide_eq_true_iff]
      omega
    generalize L.good key = b at *
    by_cases h1 : (key.length : Int) ≤ 64
    · have d1 : decide ((key.length : Int) ≤ 64) = true := by simp; omega
      have d1' : decide (key.length ≤ 64) = true := by simp; omega
      rw [d1] at hg
      subst hg
      go_enter Try.func33, Try.ntmps33
      go_wp2
      go_ret
      exact ⟨rfl, rfl⟩
    · have d1 : decide ((key.length : Int) ≤ 64) = false := by simp; omega
      have d1' : decide (key.length ≤ 64) = false := by simp; omega
      rw [d1] at hg
      subst hg
      go_enter Try.func33, Try.ntmps33
      go_wp2
      go_ret
      exact ⟨rfl, rfl⟩
set_option maxRecDepth 100000 in
set_option maxHeartbeats 1000000 in
theorem ltext_any (id : List UInt8) (v : Int) (hid : id.length ≤ 60000) (w : World) :
    Calls Try.prog 65 #[.string ⟨id.toArray⟩, .int .i64 v] w fun e w' => e = .returned (.tuple #[.string ⟨(if L.errT id v = 0 then L.text id v else []).toArray⟩, .int .i64 (L.errT id v : Int)]) ∧ Below w.heap.size w w' := by
  have CN := Lib.hid (fun W => check_any id W (by omega))
  have hle : L.errT id v = if (N.check id).2 ≠ 0 then (N.check id).2 else if v < 0 ∨ 1073741824 < v then 1 else 0 := rfl
  generalize L.errT id v = E at *
  generalize (N.check id).1 = c1 at *
  generalize (N.check id).2 = c2 at *
  by_cases h0 : c2 = 0
  · subst h0
    rw [if_neg (by simp)] at hle
    rw [show ((0 : Nat) : Int) = 0 from rfl] at CN
    by_cases h1 : v < 0
    · rw [if_pos (.inl h1)] at hle
      subst hle
      have d1 : decide (v < 0) = true := by simp; omega
      go_enter Try.func65, Try.ntmps65
      go_wp2_with (go_at_call 101; with_reducible refine (CN.out _).mono ?_; rintro e w1 ⟨rfl, hb1⟩)
      go_ret2
      exact ⟨rfl, hb1⟩
    · have d1 : decide (v < 0) = false := by simp; omega
      by_cases h2 : 1073741824 < v
      · rw [if_pos (.inr h2)] at hle
        subst hle
        have d2 : decide (1073741824 < v) = true := by simp; omega
        go_enter Try.func65, Try.ntmps65
        go_wp2_with (go_at_call 101; with_reducible refine (CN.out _).mono ?_; rintro e w1 ⟨rfl, hb1⟩)
        go_ret2
        exact ⟨rfl, hb1⟩
      · rw [if_neg (by omega)] at hle
        subst hle
        have d2 : decide (1073741824 < v) = false := by simp; omega
        obtain ⟨n, rfl⟩ := Int.eq_ofNat_of_zero_le (show 0 ≤ v by omega)
        rw [if_pos rfl]
        have htl : (D.textB id).length ≤ 60009 := by
          have := D.numB_le9 id.length (by omega)
          unfold D.textB; rw [List.length_append]; omega
        have hnl := D.numB_le9 n (by omega)
        have WT := Lib.hid (fun g v xs W (h : Wst W g v xs) (hx : xs.length ≤ 1000000000) => wtext_any id (by omega) g v xs W h hx)
        have WN := Lib.hid (fun g v xs W (h : Wst W g v xs) (hx : xs.length ≤ 140737488355000) => number_any n (by omega) g v xs W h hx)
        have WD := Lib.hid (fun g v xs W (h : Wst W g v xs) (hx : xs.length ≤ 65536) => wdone_any g v xs W h hx)
        have hL : L.text id (n : Int) = [] ++ D.textB id ++ D.numB n := rfl
        have hlen : ([] ++ D.textB id ++ D.numB n : List UInt8).length ≤ 65536 := by simp; omega
        rw [← hL] at hlen
        have hlt : ([] ++ D.textB id : List UInt8).length ≤ 140737488355000 := by simp; omega
        generalize L.text id (n : Int) = R at *
        have HL := Lib.hid hL
        clear hL
        go_enter Try.func65, Try.ntmps65
        go_wp2_with (first | (go_at_call 101; with_reducible refine (CN.out _).mono ?_; rintro e w1 ⟨rfl, hb1⟩) | (go_at_call 102; with_reducible refine ((WT.out _ _ _ _ (wst_new w1) (by simp))).mono ?_; rintro e w2 ⟨rfl, v2, hw2, ht2⟩) | (go_at_call 72; with_reducible refine ((WN.out _ _ _ _ hw2 hlt)).mono ?_; rintro e w3 ⟨rfl, v3, hw3, ht3⟩; rw [← HL.out] at hw3) | (go_at_call 73; with_reducible refine ((WD.out _ _ _ _ hw3 hlen)).mono ?_; rintro e w4 ⟨rfl, rfl⟩))
        go_ret2
        exact ⟨rfl, (ht2.trans ht3).below (hb1.alloc hb1.size _) (by have := hb1.size; simp; omega) hb1.size (fun b _ e => by simp [Value.ownBlock] at e)⟩
  · rw [if_pos h0] at hle
    subst hle
    have d0 : ((E : Int) != 0) = true := by rw [bne_iff_ne]; omega
    rw [if_neg h0]
    go_enter Try.func65, Try.ntmps65
    go_wp2_with (go_at_call 101; with_reducible refine (CN.out _).mono ?_; rintro e w1 ⟨rfl, hb1⟩)
    go_ret2
    exact ⟨rfl, hb1⟩
set_option maxRecDepth 100000 in
set_option maxHeartbeats 1000000 in
theorem seed_any (key id : List UInt8) (v : Int) (hid : id.length ≤ 60000) (hk : key.length ≤ 100000000000000) (w : World) :
    Calls Try.prog 30 #[.string ⟨key.toArray⟩, .string ⟨id.toArray⟩, .int .i64 v] w fun e w' => e = .returned (.tuple #[.agg (labA (L.seed key id v)), .int .i64 (L.err key id v : Int)]) ∧ Below w.heap.size w w' := by
  have GG := Lib.hid (fun W => good_any key W)
  have TT := Lib.hid (fun W => ltext_any id v hid W)
  have hz0 := size_lab zlab rfl
  have he : L.err key id v = if L.good key then L.errT id v else 1 := rfl
  have hs : L.seed key id v = if L.err key id v = 0 then S.mac key (L.text id v) else zlab := rfl
  by_cases hg : L.good key = true
  · rw [hg] at GG
    rw [if_pos hg] at he
    rw [he] at hs ⊢
    have hT2 : L.errT id v = 0 → (L.text id v).length ≤ 100000000000000 := fun h => by
      have := L.text_length id v hid (L.errT_zero h).2
      omega
    generalize L.errT id v = E at *
    by_cases h0 : E = 0
    · subst h0
      rw [if_pos rfl] at hs TT
      have hT := hT2 rfl
      clear hT2
      have MM := Lib.hid (fun W => mac_any key (L.text id v) W hk hT)
      have hl := S.mac_length key (L.text id v)
      rw [hs]
      generalize S.mac key (L.text id v) = m at *
      generalize (⟨(L.text id v).toArray⟩ : ByteArray) = T at *
      rw [show ((0 : Nat) : Int) = 0 from rfl] at TT ⊢
      have hzm := size_lab m hl
      go_enter Try.func30, Try.ntmps30
      go_wp2_with (first | (refine wpList_fresh (by rfl) 25 (by rfl) _ fresh_lab ?_; simp only [Act.put, List.setIfInBounds_toArray, List.set_cons_succ, List.set_cons_zero]; try simp only [World.size_alloc]) | (go_at_call 33; with_reducible refine (GG.out _).mono ?_; rintro e w1 ⟨rfl, rfl⟩) | (go_at_call 65; with_reducible refine (TT.out _).mono ?_; rintro e w2 ⟨rfl, hb2⟩) | (go_at_call 28; with_reducible refine (MM.out _).mono ?_; rintro e w3 ⟨rfl, hb3⟩) | ((refine wpList_store_blk (by rfl) 25 (.tmp 6) (.tmp 26) (by rfl) (0) (labA m) (by rfl) (by rfl) ((((Blk.new w (labA zlab) 25).at_ hb2).at_ hb3)) ((by rw [labA_size, labA_size, hl]; decide)) hzm (labA_all _) ?_; simp only [Act.put]); intro w9 b9 o9))
      rw [splice_all _ _ (by rw [labA_size, labA_size, hl]; decide)] at b9
      exact bodyPost_ret (v := .tuple #[.agg (labA m), .int .i64 0]) (results_blk2 (by rfl) _ b9 _ _ (by rfl) (by rfl) Try.underlying25 (by rfl) hzm) rfl ⟨rfl, o9.below (((below_alloc1 w _).trans (hb2.mono (by simp))).trans (hb3.mono (by have := hb2.size; simp at this; omega))) (Nat.le_refl _)⟩
    · rw [if_neg h0] at hs TT
      rw [hs]
      have d0 : ((E : Int) != 0) = true := by rw [bne_iff_ne]; omega
      go_enter Try.func30, Try.ntmps30
      go_wp2_with (first | (refine wpList_fresh (by rfl) 25 (by rfl) _ fresh_lab ?_; simp only [Act.put, List.setIfInBounds_toArray, List.set_cons_succ, List.set_cons_zero]; try simp only [World.size_alloc]) | (refine wpList_zero (by rfl) 25 (by rfl) _ build_labz ?_; simp only [Act.put, List.setIfInBounds_toArray, List.set_cons_succ, List.set_cons_zero]) | (go_at_call 33; with_reducible refine (GG.out _).mono ?_; rintro e w1 ⟨rfl, rfl⟩) | (go_at_call 65; with_reducible refine (TT.out _).mono ?_; rintro e w2 ⟨rfl, hb2⟩) | ((refine wpList_store_blk (by rfl) 25 (.tmp 6) (.tmp 22) (by rfl) (0) (labA zlab) (by rfl) (by rfl) (((Blk.new w (labA zlab) 25).at_ hb2)) ((by rw [labA_size]; decide)) hz0 (labA_all _) ?_; simp only [Act.put]); intro w9 b9 o9))
      rw [splice_all _ _ rfl] at b9
      exact bodyPost_ret (v := .tuple #[.agg (labA zlab), .int .i64 (E : Int)]) (results_blk2 (by rfl) _ b9 _ _ (by rfl) (by rfl) Try.underlying25 (by rfl) hz0) rfl ⟨rfl, o9.below ((below_alloc1 w _).trans (hb2.mono (by simp))) (Nat.le_refl _)⟩
  · have hg : L.good key = false := by simpa using hg
    rw [hg] at GG
    rw [if_neg (by rw [hg]; simp)] at he
    rw [he, if_neg (by decide)] at hs
    rw [he, hs]
    rw [show ((1 : Nat) : Int) = 1 from rfl]
    go_enter Try.func30, Try.ntmps30
    go_wp2_with (first | (refine wpList_fresh (by rfl) 25 (by rfl) _ fresh_lab ?_; simp only [Act.put, List.setIfInBounds_toArray, List.set_cons_succ, List.set_cons_zero]; try simp only [World.size_alloc]) | (refine wpList_zero (by rfl) 25 (by rfl) _ build_labz ?_; simp only [Act.put, List.setIfInBounds_toArray, List.set_cons_succ, List.set_cons_zero]) | (go_at_call 33; with_reducible refine (GG.out _).mono ?_; rintro e w1 ⟨rfl, rfl⟩) | ((refine wpList_store_blk (by rfl) 25 (.tmp 6) (.tmp 13) (by rfl) (0) (labA zlab) (by rfl) (by rfl) ((Blk.new w (labA zlab) 25)) ((by rw [labA_size]; decide)) hz0 (labA_all _) ?_; simp only [Act.put]); intro w9 b9 o9))
    rw [splice_all _ _ rfl] at b9
    exact bodyPost_ret (v := .tuple #[.agg (labA zlab), .int .i64 1]) (results_blk2 (by rfl) _ b9 _ _ (by rfl) (by rfl) Try.underlying25 (by rfl) hz0) rfl ⟨rfl, o9.below (below_alloc1 w _) (Nat.le_refl _)⟩
end Go.Proofs.Ytgjmnhbkdccgpaa
