/- The walks of what package label sums: Public, Fresh, Stale, Nonce, Commit, Tomb, Mark. -/
import Derived.Test.YtgjmnhbkdccgpaaWLRef
namespace Go.Proofs.Ytgjmnhbkdccgpaa
open Go.RowKit

theorem joined_new (tag : UInt8) (n : Int) (hn : n = (tag.toNat : Int)) (ts : List (List UInt8)) (cs : Array Value) (k : Nat) (hc : cs = (ts.map strV).toArray) (hk : ts.length = k) (hk4 : k ≤ 4) (hl : (J.joinB tag ts).length ≤ 140737488355000) (W : World) (b : Nat) (hb : W.heap.size = b) :
    Calls Try.prog 25 #[.int .u8 n, .slice (some ⟨b, 0, none⟩) k k] (W.alloc (.cells cs 9)) fun e w' => e = .returned (.agg (labA (S.sum (J.joinB tag ts)))) ∧ Below (W.alloc (.cells cs 9)).heap.size (W.alloc (.cells cs 9)) w' := by
  subst hn hb
  exact joined_any tag ts _ _ (Row1.build W 9 (ts.map strV) cs k hc (by rw [List.length_map]; exact hk) (by omega)).reads hl
theorem sread_nil (w : World) : SRead w (.slice none 0 0) [] := ⟨none, 0, rfl, Nat.le_refl _, .inl rfl⟩
theorem joined_nil (tag : UInt8) (n : Int) (hn : n = (tag.toNat : Int)) (W : World) :
    Calls Try.prog 25 #[.int .u8 n, .slice none 0 0] W fun e w' => e = .returned (.agg (labA (S.sum [tag]))) ∧ Below W.heap.size W w' := by
  subst hn
  exact joined_any tag [] _ _ (sread_nil W) (by simp [J.joinB, J.joins])
theorem lab_conv {W : World} {g : Nat} {l : List UInt8} (hl : l.length = 32) (b : Blk W g (labA l) 25) : (convert 36 9 (.slice (some ⟨g, 0, none⟩) 32 32)).run Try.prog W = .ok (.string ⟨l.toArray⟩) W := by
  have := conv_blk b 36 Try.underlying36 32 32 (by omega)
  rwa [List.take_of_length_le (by omega)] at this
namespace L
def pub (key : List UInt8) : List UInt8 := S.sum (J.joinB 1 [key])
def fresh (s : List UInt8) : List UInt8 := S.sum (J.joinB 2 [s])
def stale (s : List UInt8) : List UInt8 := S.sum (J.joinB 3 [s])
def nonceT : List UInt8 := [110, 111, 110, 99, 101]
def nonce (key s : List UInt8) : List UInt8 := S.mac key (nonceT ++ s)
def commit (v n : List UInt8) : List UInt8 := S.sum (J.joinB 4 [n, v])
end L
theorem joinB1_len (tag : UInt8) (s : List UInt8) : (J.joinB tag [s]).length = s.length + 5 := by
  simp [J.joinB, J.joins, J.one, J.len4_length]
  try omega
theorem joinB2_len (tag : UInt8) (s t : List UInt8) : (J.joinB tag [s, t]).length = s.length + t.length + 9 := by
  simp [J.joinB, J.joins, J.one, J.len4_length]
  try omega
set_option maxRecDepth 100000 in
set_option maxHeartbeats 1000000 in
theorem public_any (key : List UInt8) (hk : key.length ≤ 1000000000) (w : World) :
    Calls Try.prog 37 #[.string ⟨key.toArray⟩] w fun e w' => e = .returned (.agg (labA (L.pub key))) ∧ Below w.heap.size w w' := by
  have JJ := Lib.hid (fun W b hb => joined_new 1 1 rfl [key] #[.string ⟨key.toArray⟩] 1 rfl rfl (by omega) (by rw [joinB1_len]; omega) W b hb)
  have hl : (L.pub key).length = 32 := S.sum_length _
  rw [show S.sum (J.joinB 1 [key]) = L.pub key from rfl] at JJ
  generalize L.pub key = m at *
  generalize (⟨key.toArray⟩ : ByteArray) = K at *
  have hzm := size_lab m hl
  go_enter Try.func37, Try.ntmps37
  go_wp2_with (first | (refine wpList_fresh (by rfl) 25 (by rfl) _ fresh_lab ?_; simp only [Act.put, List.setIfInBounds_toArray, List.set_cons_succ, List.set_cons_zero]; try simp only [World.size_alloc]) | (go_at_call 25; with_reducible refine (JJ.out _ _ (World.size_alloc ..)).mono ?_; rintro e w3 ⟨rfl, hb3⟩) | ((refine wpList_store_blk (by rfl) 25 (.tmp 2) (.tmp 5) (by rfl) (0) (labA m) (by rfl) (by rfl) ((((Blk.new w (labA zlab) 25).alloc _).at_ hb3)) ((by rw [labA_size, labA_size, hl]; decide)) hzm (labA_all _) ?_; simp only [Act.put]); intro w9 b9 o9))
  rw [splice_all _ _ (by rw [labA_size, labA_size, hl]; decide)] at b9
  exact bodyPost_ret (v := .agg (labA m)) (results_blk (by rfl) _ b9 _ (by rfl) Try.underlying25 (by rfl) hzm) rfl ⟨rfl, o9.below (((below_alloc1 w _).alloc (by simp) _).trans (hb3.mono (by simp; omega))) (Nat.le_refl _)⟩
set_option maxRecDepth 100000 in
set_option maxHeartbeats 1000000 in
theorem tomb_any (w : World) : Calls Try.prog 42 #[] w fun e w' => e = .returned (.agg (labA (S.sum [5]))) ∧ Below w.heap.size w w' := by
  have JJ := Lib.hid (fun W => joined_nil 5 5 rfl W)
  have hl : (S.sum [5]).length = 32 := S.sum_length _
  generalize S.sum [5] = m at *
  have hzm := size_lab m hl
  go_enter Try.func42, Try.ntmps42
  go_wp2_with (first | (refine wpList_fresh (by rfl) 25 (by rfl) _ fresh_lab ?_; simp only [Act.put, List.setIfInBounds_toArray, List.set_cons_zero]; try simp only [World.size_alloc]) | (go_at_call 25; with_reducible refine (JJ.out _).mono ?_; rintro e w3 ⟨rfl, hb3⟩) | ((refine wpList_store_blk (by rfl) 25 (.tmp 0) (.tmp 1) (by rfl) (0) (labA m) (by rfl) (by rfl) (((Blk.new w (labA zlab) 25).at_ hb3)) ((by rw [labA_size, labA_size, hl]; decide)) hzm (labA_all _) ?_; simp only [Act.put]); intro w9 b9 o9))
  rw [splice_all _ _ (by rw [labA_size, labA_size, hl]; decide)] at b9
  exact bodyPost_ret (v := .agg (labA m)) (results_blk (by rfl) _ b9 _ (by rfl) Try.underlying25 (by rfl) hzm) rfl ⟨rfl, o9.below ((below_alloc1 w _).trans (hb3.mono (by simp))) (Nat.le_refl _)⟩
set_option maxRecDepth 100000 in
set_option maxHeartbeats 1000000 in
theorem mark_any (w : World) : Calls Try.prog 43 #[] w fun e w' => e = .returned (.agg (labA (S.sum [6]))) ∧ Below w.heap.size w w' := by
  have JJ := Lib.hid (fun W => joined_nil 6 6 rfl W)
  have hl : (S.sum [6]).length = 32 := S.sum_length _
  generalize S.sum [6] = m at *
  have hzm := size_lab m hl
  go_enter Try.func43, Try.ntmps43
  go_wp2_with (first | (refine wpList_fresh (by rfl) 25 (by rfl) _ fresh_lab ?_; simp only [Act.put, List.setIfInBounds_toArray, List.set_cons_zero]; try simp only [World.size_alloc]) | (go_at_call 25; with_reducible refine (JJ.out _).mono ?_; rintro e w3 ⟨rfl, hb3⟩) | ((refine wpList_store_blk (by rfl) 25 (.tmp 0) (.tmp 1) (by rfl) (0) (labA m) (by rfl) (by rfl) (((Blk.new w (labA zlab) 25).at_ hb3)) ((by rw [labA_size, labA_size, hl]; decide)) hzm (labA_all _) ?_; simp only [Act.put]); intro w9 b9 o9))
  rw [splice_all _ _ (by rw [labA_size, labA_size, hl]; decide)] at b9
  exact bodyPost_ret (v := .agg (labA m)) (results_blk (by rfl) _ b9 _ (by rfl) Try.underlying25 (by rfl) hzm) rfl ⟨rfl, o9.below ((below_alloc1 w _).trans (hb3.mono (by simp))) (Nat.le_refl _)⟩
set_option maxRecDepth 100000 in
set_option maxHeartbeats 1000000 in
theorem fresh_any (s : List UInt8) (hs : s.length = 32) (w : World) :
    Calls Try.prog 38 #[.agg (labA s)] w fun e w' => e = .returned (.agg (labA (L.fresh s))) ∧ Below w.heap.size w w' := by
  have JJ := Lib.hid (fun W b hb => joined_new 2 2 rfl [s] #[.string ⟨s.toArray⟩] 1 rfl rfl (by omega) (by rw [joinB1_len]; omega) W b hb)
  have hl : (L.fresh s).length = 32 := S.sum_length _
  rw [show S.sum (J.joinB 2 [s]) = L.fresh s from rfl] at JJ
  have b0 : Blk (w.alloc (.cells (labA s) 25)) w.heap.size (labA s) 25 := Blk.new _ _ _
  have hc := lab_conv hs (b0.alloc (.cells (labA zlab) 25))
  generalize L.fresh s = m at *
  generalize (⟨s.toArray⟩ : ByteArray) = S at *
  have hzm := size_lab m hl
  have hsz : ∀ (o1 o2 : Obj), ((w.alloc o1).alloc o2).heap.size = w.heap.size + 1 + 1 := fun _ _ => by simp
  go_enter Try.func38, Try.ntmps38
  go_wp2_with (first | (refine wpList_fresh (by rfl) 25 (by rfl) _ fresh_lab ?_; simp only [Act.put, List.setIfInBounds_toArray, List.set_cons_succ, List.set_cons_zero]; try simp only [World.size_alloc]) | (go_at_call 25; with_reducible refine (JJ.out _ _ (hsz _ _)).mono ?_; rintro e w3 ⟨rfl, hb3⟩) | ((refine wpList_store_blk (by rfl) 25 (.tmp 2) (.tmp 6) (by rfl) (0) (labA m) (by rfl) (by rfl) ((((blk_new1 w _ _ _).alloc _).at_ hb3)) ((by rw [labA_size, labA_size, hl]; decide)) hzm (labA_all _) ?_; simp only [Act.put]); intro w9 b9 o9))
  rw [splice_all _ _ (by rw [labA_size, labA_size, hl]; decide)] at b9
  exact bodyPost_ret (v := .agg (labA m)) (results_blk (by rfl) _ b9 _ (by rfl) Try.underlying25 (by rfl) hzm) rfl ⟨rfl, o9.below ((((below_alloc1 w _).alloc (by simp) _).alloc (by simp; omega) _).trans (hb3.mono (by simp; omega))) (by simp)⟩
set_option maxRecDepth 100000 in
set_option maxHeartbeats 1000000 in
theorem stale_any (s : List UInt8) (hs : s.length = 32) (w : World) :
    Calls Try.prog 39 #[.agg (labA s)] w fun e w' => e = .returned (.agg (labA (L.stale s))) ∧ Below w.heap.size w w' := by
  have JJ := Lib.hid (fun W b hb => joined_new 3 3 rfl [s] #[.string ⟨s.toArray⟩] 1 rfl rfl (by omega) (by rw [joinB1_len]; omega) W b hb)
  have hl : (L.stale s).length = 32 := S.sum_length _
  rw [show S.sum (J.joinB 3 [s]) = L.stale s from rfl] at JJ
  have b0 : Blk (w.alloc (.cells (labA s) 25)) w.heap.size (labA s) 25 := Blk.new _ _ _
  have hc := lab_conv hs (b0.alloc (.cells (labA zlab) 25))
  generalize L.stale s = m at *
  generalize (⟨s.toArray⟩ : ByteArray) = S at *
  have hzm := size_lab m hl
  have hsz : ∀ (o1 o2 : Obj), ((w.alloc o1).alloc o2).heap.size = w.heap.size + 1 + 1 := fun _ _ => by simp
  go_enter Try.func39, Try.ntmps39
  go_wp2_with (first | (refine wpList_fresh (by rfl) 25 (by rfl) _ fresh_lab ?_; simp only [Act.put, List.setIfInBounds_toArray, List.set_cons_succ, List.set_cons_zero]; try simp only [World.size_alloc]) | (go_at_call 25; with_reducible refine (JJ.out _ _ (hsz _ _)).mono ?_; rintro e w3 ⟨rfl, hb3⟩) | ((refine wpList_store_blk (by rfl) 25 (.tmp 2) (.tmp 6) (by rfl) (0) (labA m) (by rfl) (by rfl) ((((blk_new1 w _ _ _).alloc _).at_ hb3)) ((by rw [labA_size, labA_size, hl]; decide)) hzm (labA_all _) ?_; simp only [Act.put]); intro w9 b9 o9))
  rw [splice_all _ _ (by rw [labA_size, labA_size, hl]; decide)] at b9
  exact bodyPost_ret (v := .agg (labA m)) (results_blk (by rfl) _ b9 _ (by rfl) Try.underlying25 (by rfl) hzm) rfl ⟨rfl, o9.below ((((below_alloc1 w _).alloc (by simp) _).alloc (by simp; omega) _).trans (hb3.mono (by simp; omega))) (by simp)⟩
set_option maxRecDepth 100000 in
set_option maxHeartbeats 1000000 in
theorem nonce_any (key s : List UInt8) (hk : key.length ≤ 1000000000) (hs : s.length = 32) (w : World) :
    Calls Try.prog 40 #[.string ⟨key.toArray⟩, .agg (labA s)] w fun e w' => e = .returned (.agg (labA (L.nonce key s))) ∧ Below w.heap.size w w' := by
  have MM := Lib.hid (fun W => mac_any key (L.nonceT ++ s) W (by omega) (by simp [L.nonceT]; omega))
  have hl : (L.nonce key s).length = 32 := S.mac_length _ _
  rw [show S.mac key (L.nonceT ++ s) = L.nonce key s from rfl] at MM
  have sa := str_add L.nonceT s (by simp [L.nonceT]; omega)
  rw [show (⟨L.nonceT.toArray⟩ : ByteArray) = ⟨#[110, 111, 110, 99, 101]⟩ from rfl] at sa
  have hcv := Lib.hid (fun (W : World) (g : Nat) (b : Blk W g (labA s) 25) => lab_conv hs b)
  have b0 : Blk (w.alloc (.cells (labA s) 25)) w.heap.size (labA s) 25 := Blk.new _ _ _
  have hc := hcv.out _ _ (b0.alloc (.cells (labA zlab) 25))
  generalize L.nonce key s = m at *
  generalize (⟨(L.nonceT ++ s).toArray⟩ : ByteArray) = T at *
  generalize (⟨key.toArray⟩ : ByteArray) = K at *
  generalize (⟨s.toArray⟩ : ByteArray) = S at *
  have hzm := size_lab m hl
  go_enter Try.func40, Try.ntmps40
  go_wp2_with (first | (refine wpList_fresh (by rfl) 25 (by rfl) _ fresh_lab ?_; simp only [Act.put, List.setIfInBounds_toArray, List.set_cons_succ, List.set_cons_zero]; try simp only [World.size_alloc]) | (go_at_call 28; with_reducible refine (MM.out _).mono ?_; rintro e w3 ⟨rfl, hb3⟩) | ((refine wpList_store_blk (by rfl) 25 (.tmp 4) (.tmp 9) (by rfl) (0) (labA m) (by rfl) (by rfl) (((blk_new1 w _ _ _).at_ hb3)) ((by rw [labA_size, labA_size, hl]; decide)) hzm (labA_all _) ?_; simp only [Act.put]); intro w9 b9 o9))
  rw [splice_all _ _ (by rw [labA_size, labA_size, hl]; decide)] at b9
  exact bodyPost_ret (v := .agg (labA m)) (results_blk (by rfl) _ b9 _ (by rfl) Try.underlying25 (by rfl) hzm) rfl ⟨rfl, o9.below (((below_alloc1 w _).alloc (by simp) _).trans (hb3.mono (by simp; omega))) (by simp)⟩
set_option maxRecDepth 100000 in
set_option maxHeartbeats 1000000 in
theorem commit_any (v s : List UInt8) (hv : v.length ≤ 1000000000) (hs : s.length = 32) (w : World) :
    Calls Try.prog 41 #[.string ⟨v.toArray⟩, .agg (labA s)] w fun e w' => e = .returned (.agg (labA (L.commit v s))) ∧ Below w.heap.size w w' := by
  have JJ := Lib.hid (fun W b hb => joined_new 4 4 rfl [s, v] #[.string ⟨s.toArray⟩, .string ⟨v.toArray⟩] 2 rfl rfl (by omega) (by rw [joinB2_len]; omega) W b hb)
  have hl : (L.commit v s).length = 32 := S.sum_length _
  rw [show S.sum (J.joinB 4 [s, v]) = L.commit v s from rfl] at JJ
  have b0 : Blk (w.alloc (.cells (labA s) 25)) w.heap.size (labA s) 25 := Blk.new _ _ _
  have hc := lab_conv hs (b0.alloc (.cells (labA zlab) 25))
  generalize L.commit v s = m at *
  generalize (⟨v.toArray⟩ : ByteArray) = K at *
  generalize (⟨s.toArray⟩ : ByteArray) = S at *
  have hzm := size_lab m hl
  have hsz : ∀ (o1 o2 : Obj), ((w.alloc o1).alloc o2).heap.size = w.heap.size + 1 + 1 := fun _ _ => by simp
  go_enter Try.func41, Try.ntmps41
  go_wp2_with (first | (refine wpList_fresh (by rfl) 25 (by rfl) _ fresh_lab ?_; simp only [Act.put, List.setIfInBounds_toArray, List.set_cons_succ, List.set_cons_zero]; try simp only [World.size_alloc]) | (go_at_call 25; with_reducible refine (JJ.out _ _ (hsz _ _)).mono ?_; rintro e w3 ⟨rfl, hb3⟩) | ((refine wpList_store_blk (by rfl) 25 (.tmp 4) (.tmp 9) (by rfl) (0) (labA m) (by rfl) (by rfl) ((((blk_new1 w _ _ _).alloc _).at_ hb3)) ((by rw [labA_size, labA_size, hl]; decide)) hzm (labA_all _) ?_; simp only [Act.put]); intro w9 b9 o9))
  rw [splice_all _ _ (by rw [labA_size, labA_size, hl]; decide)] at b9
  exact bodyPost_ret (v := .agg (labA m)) (results_blk (by rfl) _ b9 _ (by rfl) Try.underlying25 (by rfl) hzm) rfl ⟨rfl, o9.below ((((below_alloc1 w _).alloc (by simp) _).alloc (by simp; omega) _).trans (hb3.mono (by simp; omega))) (by simp)⟩
end Go.Proofs.Ytgjmnhbkdccgpaa
