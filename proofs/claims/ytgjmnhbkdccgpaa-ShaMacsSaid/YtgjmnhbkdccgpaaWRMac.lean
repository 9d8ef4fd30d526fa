/- The walk of the document's own sum by a key. -/
import Derived.Test.YtgjmnhbkdccgpaaWRSum
import Derived.Test.YtgjmnhbkdccgpaaWMac
import Derived.Test.YtgjmnhbkdccgpaaKit5
namespace Go.Proofs.Ytgjmnhbkdccgpaa
open Go.RowKit

/-- Two byte slices of the program's own, apart from one another; the result's block. -/
structure TwoB (w wr : World) (vx vy : Value) (us vs : List UInt8) : Prop where
  x : Buf wr vx us
  ox : vx.ownBlock = none ∨ ∃ k, w.heap.size + 1 ≤ k ∧ vx.ownBlock = some k
  y : Buf wr vy vs
  oy : vy.ownBlock = none ∨ ∃ k, w.heap.size + 1 ≤ k ∧ vy.ownBlock = some k
  ne : ∀ g, vx.ownBlock = some g → vy.ownBlock ≠ some g
  out : Blk wr w.heap.size (labA zlab) 25
  bel : Below w.heap.size w wr
  siz : w.heap.size + 1 ≤ wr.heap.size
theorem TwoB.swap {w wr : World} {vx vy : Value} {us vs : List UInt8} (h : TwoB w wr vx vy us vs) : TwoB w wr vy vx vs us := ⟨h.y, h.oy, h.x, h.ox, fun g hy hx => h.ne g hx hy, h.out, h.bel, h.siz⟩
theorem TwoB.appx {w wr w2 : World} {vx vy v2 : Value} {us us2 vs : List UInt8} (h : TwoB w wr vx vy us vs) (o : Obj) (hrow : Buf w2 v2 us2) (hg : (wr.alloc o).grownBy w2 vx.ownBlock) (hr : v2.ownBlock = vx.ownBlock ∨ ∃ k, (wr.alloc o).heap.size ≤ k ∧ v2.ownBlock = some k) : TwoB w w2 v2 vy us2 vs := by
  have hs1 : w.heap.size + 1 ≤ (wr.alloc o).heap.size := by have := h.siz; simp; omega
  have hbo : vx.ownBlock = none ∨ ∃ k, w.heap.size ≤ k ∧ vx.ownBlock = some k := by
    rcases h.ox with e | ⟨k, hk, e⟩
    · exact .inl e
    · exact .inr ⟨k, by omega, e⟩
  have hout : (some w.heap.size : Option Nat) ≠ vx.ownBlock := by
    intro e
    rcases h.ox with e1 | ⟨k, hk, e1⟩
    · rw [e1] at e; cases e
    · rw [e1] at e; injection e with e; omega
  refine ⟨hrow, own_later h.ox hs1 hr, ((h.y.alloc o).kept fun g hy => hg.block g (by have := h.y.lt hy; simp; omega) (fun e => h.ne g e.symm hy)), h.oy, fun g h2 hy => ?_, ((h.out.alloc o).grown hg hout), below_grown_own (h.bel.alloc h.bel.size o) (by omega) hg hbo, Nat.le_trans hs1 hg.size⟩
  rcases hr with e | ⟨k, hk, e⟩
  · rw [e] at h2; exact h.ne g h2 hy
  · rw [e] at h2
    injection h2 with h2
    have := h.y.lt hy
    simp at hk
    omega
theorem TwoB.at_ {w wr w' : World} {vx vy : Value} {us vs : List UInt8} (h : TwoB w wr vx vy us vs) (hb : Below wr.heap.size wr w') : TwoB w w' vx vy us vs :=
  ⟨h.x.at_ hb, h.ox, h.y.at_ hb, h.oy, h.ne, h.out.at_ hb, h.bel.trans (hb.mono h.bel.size), Nat.le_trans h.siz hb.size⟩
theorem xorL_snoc (c : UInt8) (K : List UInt8) (k : Nat) (h : k < K.length) : S.xorL c (K.take (k + 1)) = S.xorL c (K.take k) ++ [K.getD k 0 ^^^ c] := by
  unfold S.xorL
  rw [List.take_succ_eq_append_getElem h, List.map_append, List.getD_eq_getElem?_getD, List.getElem?_eq_getElem h]; rfl
theorem key64_get (key : List UInt8) (k : Nat) : (S.key64 key).getD k 0 = (S.keyOf key).getD k 0 := by
  unfold S.key64
  rw [List.getD_eq_getElem?_getD, List.getD_eq_getElem?_getD]
  rcases Nat.lt_or_ge k (S.keyOf key).length with h | h
  · rw [List.getElem?_append_left h]
  · rw [List.getElem?_append_right h, List.getElem?_eq_none h]
    by_cases h2 : k - (S.keyOf key).length < 64 - (S.keyOf key).length
    · rw [List.getElem?_replicate, if_pos h2]; rfl
    · rw [List.getElem?_replicate, if_neg h2]
set_option maxRecDepth 100000 in
set_option maxHeartbeats 2000000 in
theorem rmac_short (key text : List UInt8) (w : World) (hk : key.length ≤ 64) (ht : text.length ≤ 100000000000000) :
    Calls Try.prog 29 #[.string ⟨key.toArray⟩, .string ⟨text.toArray⟩] w fun e w' => e = .returned (.agg (labA (S.mac key text))) ∧ Below w.heap.size w w' := by
  have hz := str_size key
  have d0 : decide ((64 : Int) < ((⟨key.toArray⟩ : ByteArray).size : Int)) = false := by rw [hz]; simp; omega
  have d0' : decide (64 < (⟨key.toArray⟩ : ByteArray).size) = false := by rw [hz]; simp; omega
  have hko : S.keyOf key = key := if_neg (by omega)
  have Hko := Lib.hid hko
  have hkey : ∀ W w', W = w' → Below w.heap.size w w' → True := fun _ _ _ _ => trivial
  clear hz hko hkey
  go_enter Try.func29, Try.ntmps29
  go_wp2_with (refine wpList_fresh (by rfl) 25 (by rfl) _ fresh_lab ?_; simp only [Act.put, List.setIfInBounds_toArray, List.set_cons_succ, List.set_cons_zero]; try simp only [World.size_alloc])
  have bO := Blk.new w (labA zlab) 25
  have hbel := below_alloc1 w (.cells (labA zlab) 25)
  have hsz : (w.alloc (.cells (labA zlab) 25)).heap.size = w.heap.size + 1 := by simp
  obtain ⟨kk, hkk⟩ : ∃ kk, kk = key := ⟨_, rfl⟩
  have HK : Hid (S.keyOf key = kk) := Lib.hid (by rw [Hko.out, hkk])
  have hkl : kk.length ≤ 64 := by rw [hkk]; exact hk
  rw [← hkk] at d0 d0' ⊢
  clear hkk Hko hk d0 d0'
  have _tok := trivial
  obtain ⟨B, hB⟩ : ∃ B, B = w.heap.size + 1 := ⟨_, rfl⟩
  rw [← hB] at hsz ⊢
  have hx0 := (buf_build (w.alloc (.cells (labA zlab) 25)) [] #[] 0 rfl rfl (by omega)).alloc (.cells #[] 5)
  have hy0 := buf_build ((w.alloc (.cells (labA zlab) 25)).alloc (.cells #[] 5)) [] #[] 0 rfl rfl (by omega)
  rw [World.size_alloc, hsz] at hy0
  rw [hsz] at hx0
  have T0 : TwoB w (((w.alloc (.cells (labA zlab) 25)).alloc (.cells #[] 5)).alloc (.cells #[] 5)) (.slice (some ⟨B, 0, none⟩) 0 0) (.slice (some ⟨B + 1, 0, none⟩) 0 0) (S.xorL 54 ((S.key64 key).take 0)) (S.xorL 92 ((S.key64 key).take 0)) :=
    ⟨hx0, .inr ⟨B, by omega, rfl⟩, hy0, .inr ⟨B + 1, by omega, rfl⟩, fun g h1 h2 => (by simp only [Value.ownBlock, Option.some.injEq] at h1 h2; omega), (bO.alloc _).alloc _, (hbel.alloc (by omega) _).alloc (by rw [World.size_alloc]; omega) _, by rw [World.size_alloc, World.size_alloc]; omega⟩
  clear hx0 hy0 bO hbel hsz hB
  generalize ((w.alloc (.cells (labA zlab) 25)).alloc (.cells #[] 5)).alloc (.cells #[] 5) = wq at *
  generalize hv6 : Value.slice (some ⟨B, 0, none⟩) 0 0 = v6 at *
  generalize hv7 : Value.slice (some ⟨B + 1, 0, none⟩) 0 0 = v7 at *
  clear hv6 hv7
  go_loopw [6, 7, 8] (fun a b i wr => ∃ (k : Nat) (va vb : Value), va = a ∧ vb = b ∧ k ≤ 64 ∧ i = .int .i64 (k : Int) ∧ TwoB w wr va vb (S.xorL 54 ((S.key64 key).take k)) (S.xorL 92 ((S.key64 key).take k))) (fun _ _ i _ => 64 - (intOf i).toNat)
  case atStart => exact ⟨0, _, _, rfl, rfl, Nat.zero_le _, rfl, T0⟩
  case round =>
    clear T0
    obtain ⟨k, va, vb, rfl, rfl, hk64, rfl, hT⟩ := hrel
    have hKl := S.key64_length key
    by_cases hlt : k < 64
    · have d1 : decide ((k : Int) < 64) = true := by simp; omega
      have hg := key64_get key k
      rw [HK.out] at hg
      have s54 := Lib.hid (xorL_snoc 54 (S.key64 key) k (by omega))
      have s92 := Lib.hid (xorL_snoc 92 (S.key64 key) k (by omega))
      have x1 := xor_u8 ((S.key64 key).getD k 0) 54
      have x2 := xor_u8 ((S.key64 key).getD k 0) 92
      rw [show ((54 : UInt8).toNat : Int) = 54 from rfl, hg] at x1
      rw [show ((92 : UInt8).toNat : Int) = 92 from rfl, hg] at x2
      have hlx : (S.xorL 54 ((S.key64 key).take k)).length + 1 ≤ 140737488355328 := by rw [S.xorL_length, List.length_take]; omega
      have hly : (S.xorL 92 ((S.key64 key).take k)).length + 1 ≤ 140737488355328 := by rw [S.xorL_length, List.length_take]; omega
      rw [hg] at s54 s92
      generalize S.xorL 54 ((S.key64 key).take k) = X at *
      generalize S.xorL 92 ((S.key64 key).take k) = Y at *
      have hz := str_size kk
      have jk : (0 : Int) ≤ (k : Int) := by omega
      by_cases hin : k < kk.length
      · have d3 : decide ((k : Int) < ((⟨kk.toArray⟩ : ByteArray).size : Int)) = true := by rw [hz]; simp; omega
        have d3' : decide (k < (⟨kk.toArray⟩ : ByteArray).size) = true := by rw [hz]; simp; omega
        have hget := str_index_ kk k (k : Int) rfl hin
        generalize kk.getD k 0 ^^^ 54 = c54 at *
        generalize kk.getD k 0 ^^^ 92 = c92 at *
        generalize kk.getD k 0 = c at *
        clear hg hz hin hKl
        generalize (⟨kk.toArray⟩ : ByteArray) = KS at *
        go_wp2_with (first | (at_builtin; refine wpList_append_buf rfl (.tmp 31) (.tmp 34) 36 rfl Try.underlying36 rfl (hT.x.alloc _) ⟨wr.heap.size, 0, none⟩ 1 1 [c54] rfl rfl (cells1 _ _ _ rfl _) hlx ?_; intro v1 w1 hb1 hg1 hr1; have T1 := hT.appx _ hb1 hg1 hr1) | (at_builtin; refine wpList_append_buf rfl (.tmp 36) (.tmp 39) 36 rfl Try.underlying36 rfl (T1.y.alloc _) ⟨w1.heap.size, 0, none⟩ 1 1 [c92] rfl rfl (cells1 _ _ _ rfl _) hly ?_; intro v2 w2 hb2 hg2 hr2; have T2 := (T1.swap.appx _ hb2 hg2 hr2).swap))
        rw [← s54.out, ← s92.out] at T2
        go_roundw
        case rel => exact ⟨k + 1, _, _, rfl, rfl, by omega, by go_num, T2⟩
        case measure => simp [intOf]; omega
      · have d3 : decide ((k : Int) < ((⟨kk.toArray⟩ : ByteArray).size : Int)) = false := by rw [hz]; simp; omega
        have d3' : decide (k < (⟨kk.toArray⟩ : ByteArray).size) = false := by rw [hz]; simp; omega
        have hnone : kk.getD k 0 = 0 := by rw [List.getD_eq_getElem?_getD, List.getElem?_eq_none (by omega)]; rfl
        rw [hnone] at x1 x2 s54 s92
        rw [show ((0 : UInt8).toNat : Int) = 0 from rfl] at x1 x2
        generalize (0 : UInt8) ^^^ 54 = c54 at *
        generalize (0 : UInt8) ^^^ 92 = c92 at *
        clear hg hz hin hKl hnone
        generalize (⟨kk.toArray⟩ : ByteArray) = KS at *
        go_wp2_with (first | (at_builtin; refine wpList_append_buf rfl (.tmp 31) (.tmp 34) 36 rfl Try.underlying36 rfl (hT.x.alloc _) ⟨wr.heap.size, 0, none⟩ 1 1 [c54] rfl rfl (cells1 _ _ _ rfl _) hlx ?_; intro v1 w1 hb1 hg1 hr1; have T1 := hT.appx _ hb1 hg1 hr1) | (at_builtin; refine wpList_append_buf rfl (.tmp 36) (.tmp 39) 36 rfl Try.underlying36 rfl (T1.y.alloc _) ⟨w1.heap.size, 0, none⟩ 1 1 [c92] rfl rfl (cells1 _ _ _ rfl _) hly ?_; intro v2 w2 hb2 hg2 hr2; have T2 := (T1.swap.appx _ hb2 hg2 hr2).swap))
        rw [← s54.out, ← s92.out] at T2
        go_roundw
        case rel => exact ⟨k + 1, _, _, rfl, rfl, by omega, by go_num, T2⟩
        case measure => simp [intOf]; omega
    · obtain rfl : k = 64 := by omega
      rw [List.take_of_length_le (by omega)] at hT
      clear hlt
      have hm := S.mac_length key text
      have hmac : S.mac key text = S.sum (S.xorL 92 (S.key64 key) ++ S.sum (S.xorL 54 (S.key64 key) ++ text)) := rfl
      generalize hMg : S.mac key text = M at *
      have HMg := Lib.hid hMg
      clear hMg
      have Hmac := Lib.hid hmac
      clear hmac
      generalize S.key64 key = K at *
      have hx1 : (S.xorL 54 K).length = 64 := by rw [S.xorL_length, hKl]
      have hx2 : (S.xorL 92 K).length = 64 := by rw [S.xorL_length, hKl]
      have hs1 := hT.x.string Try.underlying36 Try.underlying9
      have ha1 := str_add (S.xorL 54 K) text (by omega)
      have hsum1 := Lib.hid (fun W => rsum_any (S.xorL 54 K ++ text) W (by rw [List.length_append]; omega))
      have hl1 := S.sum_length (S.xorL 54 K ++ text)
      generalize S.sum (S.xorL 54 K ++ text) = s1 at *
      have ha2 := str_add (S.xorL 92 K) s1 (by omega)
      have hsum2 := Lib.hid (fun W => rsum_any (S.xorL 92 K ++ s1) W (by rw [List.length_append]; omega))
      have hM2 := Lib.hid (Hmac.out.symm)
      clear Hmac hKl
      generalize S.xorL 54 K ++ text = t1 at *
      generalize S.sum (S.xorL 92 K ++ s1) = s2 at *
      obtain rfl : s2 = M := hM2.out
      clear hM2
      generalize S.xorL 92 K = k2 at *
      go_wp2_with (first | (go_at_call 21; with_reducible refine (hsum1.out _).mono ?_; rintro e w5 ⟨rfl, hb5⟩) | (refine wpList_fresh (by rfl) 25 (by rfl) _ fresh_lab ?_; simp only [Act.put, List.setIfInBounds_toArray, List.set_cons_succ, List.set_cons_zero]; try simp only [World.size_alloc]) | ((refine wpList_store_blk (by rfl) 25 (.tmp 10) (.tmp 45) (by rfl) (0) (labA s1) (by rfl) (by rfl) ((Blk.new _ _ _)) ((by rw [labA_size, labA_size, hl1]; decide)) (size_lab s1 hl1) (labA_all _) ?_; simp only [Act.put]); intro w6 b6 o6; rw [splice_all _ _ (by rw [labA_size, labA_size, hl1]; decide)] at b6))
      have bel6 : Below wr.heap.size wr w6 := o6.below (hb5.alloc hb5.size _) hb5.size
      have T6 := hT.at_ bel6
      clear hT hs1 ha1 o6 hb5 bel6
      generalize w5.heap.size = gX at *
      have hcU : ∀ W, Stp w6.drew W → (convert 36 9 vb).run Try.prog W = .ok (.string ⟨k2.toArray⟩) W := fun W h => (Buf.at_ T6.y.drew h).string Try.underlying36 Try.underlying9
      have hcX : ∀ W, Stp w6.drew W → (convert 36 9 (.slice (some ⟨gX, 0, none⟩) 32 32)).run Try.prog W = .ok (.string ⟨s1.toArray⟩) W := fun W h => by
        have := conv_blk (b6.drew.at_ h) 36 Try.underlying36 32 32 (by omega)
        rwa [List.take_of_length_le (by omega)] at this
      apply wp_region_rel_below_tail 6 [[(7, none)], [(46, some 0)], [(10, none)], [(48, some 2)], [(47, some 1), (49, some 3)], [(50, some 4)]] [eqv _, eqv _, eqv _, eqv _, eqv _, eqv _] (by kernel_rfl) (by kernel_rfl)
      case hobs =>
        refine ⟨?_, ?_⟩
        · rintro L a1 w1 hT - - ⟨h7, -⟩   -- 0: Op.move t7
          have e7 : a1.tmps.getD 7 undef = _ := h7
          have f7 := getD_form e7
          clear h7
          (go_simp; exact left_intro rfl (Stp.refl _) trivial)
        refine ⟨?_, ?_⟩
        · rintro L a1 w1 hT - - ⟨h46, -⟩   -- 1: Op.convert 36 9 t46
          have e46 : a1.tmps.getD 46 undef = _ := h46
          have f46 := getD_form e46
          clear h46
          have c46 := hcU w1 hT
          (go_simp; exact left_intro rfl (Stp.refl _) trivial)
        refine ⟨?_, ?_⟩
        · rintro L a1 w1 hT - - ⟨h10, -⟩   -- 2: Op.slice 25 t10 none none none
          have e10 : a1.tmps.getD 10 undef = _ := h10
          have f10 := getD_form e10
          clear h10
          (go_simp; exact left_intro rfl (Stp.refl _) trivial)
        refine ⟨?_, ?_⟩
        · rintro L a1 w1 hT - - ⟨h48, -⟩   -- 3: Op.convert 36 9 t48
          have e48 : a1.tmps.getD 48 undef = _ := h48
          have f48 := getD_form e48
          clear h48
          have c48 := hcX w1 hT
          (go_simp; exact left_intro rfl (Stp.refl _) trivial)
        refine ⟨?_, ?_⟩
        · rintro L a1 w1 hT - - ⟨h47, h49, -⟩   -- 4: Op.binOp BinOp.add 9 t47 t49 9
          have e47 : a1.tmps.getD 47 undef = _ := h47
          have f47 := getD_form e47
          have e49 : a1.tmps.getD 49 undef = _ := h49
          have f49 := getD_form e49
          clear h47 h49
          (go_simp; exact left_intro rfl (Stp.refl _) trivial)
        refine ⟨?_, ?_⟩
        · rintro L a1 w1 hT - - ⟨h50, -⟩   -- 5: Op.call { value (Operand.func 21), args := #[t50], argTypes := #[9] }
          have e50 : a1.tmps.getD 50 undef = _ := h50
          have f50 := getD_form e50
          clear h50
          (go_simp; go_at_call 21; (with_reducible refine (hsum2.out _).mono ?_); rintro e w2 ⟨rfl, hb⟩; exact left_intro rfl (Stp.of hb) trivial)
        trivial
      case hmono => repeat (first | exact trivial | refine ⟨fun _ _ _ _ h => h, ?_⟩)
      case hend =>
        intro w2 hT
        rintro _ rfl _ rfl _ rfl _ rfl _ rfl _ rfl
        have T7 := T6.at_ hT
        simp only [Act.put, List.setIfInBounds_toArray, List.set_cons_succ, List.set_cons_zero, List.drop_succ_cons, List.drop_zero]
        go_wp2_with ((refine wpList_store_blk (by rfl) 25 (.tmp 4) (.tmp 51) (by rfl) (0) (labA s2) (by rfl) (by rfl) (T7.out) ((by rw [labA_size, labA_size, hm]; decide)) (size_lab s2 hm) (labA_all _) ?_; simp only [Act.put]); intro w9 b9 o9)
        rw [splice_all _ _ (by rw [labA_size, labA_size, hm]; decide)] at b9
        exact bodyPost_ret (v := .agg (labA s2)) (results_blk (by rfl) _ b9 _ (by rfl) Try.underlying25 (by rfl) (size_lab s2 hm)) rfl ⟨by rw [HMg.out], o9.below T7.bel (Nat.le_refl _)⟩
set_option maxRecDepth 100000 in
set_option maxHeartbeats 2000000 in
theorem rmac_long (key text : List UInt8) (w : World) (hk : 64 < key.length) (hkl0 : key.length ≤ 100000000000000) (ht : text.length ≤ 100000000000000) :
    Calls Try.prog 29 #[.string ⟨key.toArray⟩, .string ⟨text.toArray⟩] w fun e w' => e = .returned (.agg (labA (S.mac key text))) ∧ Below w.heap.size w w' := by
  have hz := str_size key
  have d0 : decide ((64 : Int) < ((⟨key.toArray⟩ : ByteArray).size : Int)) = true := by rw [hz]; simp; omega
  have d0' : decide (64 < (⟨key.toArray⟩ : ByteArray).size) = true := by rw [hz]; simp; omega
  have hko : S.keyOf key = S.sum key := if_pos hk
  have hls := S.sum_length key
  have hsum := Lib.hid (fun W => rsum_any key W (by omega))
  obtain ⟨kk, hkk⟩ : ∃ kk, kk = S.sum key := ⟨_, rfl⟩
  rw [← hkk] at hls hsum hko
  have HK := Lib.hid hko
  have hkl : kk.length ≤ 64 := by omega
  clear hz hko hkk
  go_enter Try.func29, Try.ntmps29
  go_wp2_with (first | (refine wpList_fresh (by rfl) 25 (by rfl) _ fresh_lab ?_; simp only [Act.put, List.setIfInBounds_toArray, List.set_cons_succ, List.set_cons_zero]; try simp only [World.size_alloc]) | (go_at_call 21; with_reducible refine (hsum.out _).mono ?_; rintro e w1 ⟨rfl, hb1⟩) | ((refine wpList_store_blk (by rfl) 25 (.tmp 5) (.tmp 15) (by rfl) (0) (labA kk) (by rfl) (by rfl) ((Blk.new _ _ _)) ((by rw [labA_size, labA_size, hls]; decide)) (size_lab kk hls) (labA_all _) ?_; simp only [Act.put]); intro w2 bx o2; rw [splice_all _ _ (by rw [labA_size, labA_size, hls]; decide)] at bx; have hcv := conv_blk bx 36 Try.underlying36 32 32 (by omega); rw [List.take_of_length_le (by omega)] at hcv))
  have hb0 := below_alloc1 w (.cells (labA zlab) 25)
  have hb2 := o2.below (hb1.alloc hb1.size (.cells (labA zlab) 25)) hb1.size
  have bO := (Blk.new w (labA zlab) 25).at_ hb2
  have hbel := hb0.trans (hb2.mono (by simp))
  have hge := hb2.size
  rw [World.size_alloc] at hge
  obtain ⟨B, hsz⟩ : ∃ B, w2.heap.size = B := ⟨_, rfl⟩
  have hB : B = w2.heap.size := hsz.symm
  have hBge : w.heap.size + 1 ≤ B := by omega
  rw [hsz]
  clear hb0 hb1 hb2 o2 bx hcv d0 d0' hk hkl0 hls hsum hge
  have hx0 := (buf_build (w2) [] #[] 0 rfl rfl (by omega)).alloc (.cells #[] 5)
  have hy0 := buf_build ((w2).alloc (.cells #[] 5)) [] #[] 0 rfl rfl (by omega)
  rw [World.size_alloc, hsz] at hy0
  rw [hsz] at hx0
  have T0 : TwoB w (((w2).alloc (.cells #[] 5)).alloc (.cells #[] 5)) (.slice (some ⟨B, 0, none⟩) 0 0) (.slice (some ⟨B + 1, 0, none⟩) 0 0) (S.xorL 54 ((S.key64 key).take 0)) (S.xorL 92 ((S.key64 key).take 0)) :=
    ⟨hx0, .inr ⟨B, by omega, rfl⟩, hy0, .inr ⟨B + 1, by omega, rfl⟩, fun g h1 h2 => (by simp only [Value.ownBlock, Option.some.injEq] at h1 h2; omega), (bO.alloc _).alloc _, (hbel.alloc (by omega) _).alloc (by rw [World.size_alloc]; omega) _, by rw [World.size_alloc, World.size_alloc]; omega⟩
  clear hx0 hy0 bO hbel hsz hB
  generalize ((w2).alloc (.cells #[] 5)).alloc (.cells #[] 5) = wq at *
  generalize hv6 : Value.slice (some ⟨B, 0, none⟩) 0 0 = v6 at *
  generalize hv7 : Value.slice (some ⟨B + 1, 0, none⟩) 0 0 = v7 at *
  clear hv6 hv7
  go_loopw [6, 7, 8] (fun a b i wr => ∃ (k : Nat) (va vb : Value), va = a ∧ vb = b ∧ k ≤ 64 ∧ i = .int .i64 (k : Int) ∧ TwoB w wr va vb (S.xorL 54 ((S.key64 key).take k)) (S.xorL 92 ((S.key64 key).take k))) (fun _ _ i _ => 64 - (intOf i).toNat)
  case atStart => exact ⟨0, _, _, rfl, rfl, Nat.zero_le _, rfl, T0⟩
  case round =>
    clear T0
    obtain ⟨k, va, vb, rfl, rfl, hk64, rfl, hT⟩ := hrel
    have hKl := S.key64_length key
    by_cases hlt : k < 64
    · have d1 : decide ((k : Int) < 64) = true := by simp; omega
      have hg := key64_get key k
      rw [HK.out] at hg
      have s54 := Lib.hid (xorL_snoc 54 (S.key64 key) k (by omega))
      have s92 := Lib.hid (xorL_snoc 92 (S.key64 key) k (by omega))
      have x1 := xor_u8 ((S.key64 key).getD k 0) 54
      have x2 := xor_u8 ((S.key64 key).getD k 0) 92
      rw [show ((54 : UInt8).toNat : Int) = 54 from rfl, hg] at x1
      rw [show ((92 : UInt8).toNat : Int) = 92 from rfl, hg] at x2
      have hlx : (S.xorL 54 ((S.key64 key).take k)).length + 1 ≤ 140737488355328 := by rw [S.xorL_length, List.length_take]; omega
      have hly : (S.xorL 92 ((S.key64 key).take k)).length + 1 ≤ 140737488355328 := by rw [S.xorL_length, List.length_take]; omega
      rw [hg] at s54 s92
      generalize S.xorL 54 ((S.key64 key).take k) = X at *
      generalize S.xorL 92 ((S.key64 key).take k) = Y at *
      have hz := str_size kk
      have jk : (0 : Int) ≤ (k : Int) := by omega
      by_cases hin : k < kk.length
      · have d3 : decide ((k : Int) < ((⟨kk.toArray⟩ : ByteArray).size : Int)) = true := by rw [hz]; simp; omega
        have d3' : decide (k < (⟨kk.toArray⟩ : ByteArray).size) = true := by rw [hz]; simp; omega
        have hget := str_index_ kk k (k : Int) rfl hin
        generalize kk.getD k 0 ^^^ 54 = c54 at *
        generalize kk.getD k 0 ^^^ 92 = c92 at *
        generalize kk.getD k 0 = c at *
        clear hg hz hin hKl
        generalize (⟨kk.toArray⟩ : ByteArray) = KS at *
        go_wp2_with (first | (at_builtin; refine wpList_append_buf rfl (.tmp 31) (.tmp 34) 36 rfl Try.underlying36 rfl (hT.x.alloc _) ⟨wr.heap.size, 0, none⟩ 1 1 [c54] rfl rfl (cells1 _ _ _ rfl _) hlx ?_; intro v1 w1 hb1 hg1 hr1; have T1 := hT.appx _ hb1 hg1 hr1) | (at_builtin; refine wpList_append_buf rfl (.tmp 36) (.tmp 39) 36 rfl Try.underlying36 rfl (T1.y.alloc _) ⟨w1.heap.size, 0, none⟩ 1 1 [c92] rfl rfl (cells1 _ _ _ rfl _) hly ?_; intro v2 w2 hb2 hg2 hr2; have T2 := (T1.swap.appx _ hb2 hg2 hr2).swap))
        rw [← s54.out, ← s92.out] at T2
        go_roundw
        case rel => exact ⟨k + 1, _, _, rfl, rfl, by omega, by go_num, T2⟩
        case measure => simp [intOf]; omega
      · have d3 : decide ((k : Int) < ((⟨kk.toArray⟩ : ByteArray).size : Int)) = false := by rw [hz]; simp; omega
        have d3' : decide (k < (⟨kk.toArray⟩ : ByteArray).size) = false := by rw [hz]; simp; omega
        have hnone : kk.getD k 0 = 0 := by rw [List.getD_eq_getElem?_getD, List.getElem?_eq_none (by omega)]; rfl
        rw [hnone] at x1 x2 s54 s92
        rw [show ((0 : UInt8).toNat : Int) = 0 from rfl] at x1 x2
        generalize (0 : UInt8) ^^^ 54 = c54 at *
        generalize (0 : UInt8) ^^^ 92 = c92 at *
        clear hg hz hin hKl hnone
        generalize (⟨kk.toArray⟩ : ByteArray) = KS at *
        go_wp2_with (first | (at_builtin; refine wpList_append_buf rfl (.tmp 31) (.tmp 34) 36 rfl Try.underlying36 rfl (hT.x.alloc _) ⟨wr.heap.size, 0, none⟩ 1 1 [c54] rfl rfl (cells1 _ _ _ rfl _) hlx ?_; intro v1 w1 hb1 hg1 hr1; have T1 := hT.appx _ hb1 hg1 hr1) | (at_builtin; refine wpList_append_buf rfl (.tmp 36) (.tmp 39) 36 rfl Try.underlying36 rfl (T1.y.alloc _) ⟨w1.heap.size, 0, none⟩ 1 1 [c92] rfl rfl (cells1 _ _ _ rfl _) hly ?_; intro v2 w2 hb2 hg2 hr2; have T2 := (T1.swap.appx _ hb2 hg2 hr2).swap))
        rw [← s54.out, ← s92.out] at T2
        go_roundw
        case rel => exact ⟨k + 1, _, _, rfl, rfl, by omega, by go_num, T2⟩
        case measure => simp [intOf]; omega
    · obtain rfl : k = 64 := by omega
      rw [List.take_of_length_le (by omega)] at hT
      clear hlt
      have hm := S.mac_length key text
      have hmac : S.mac key text = S.sum (S.xorL 92 (S.key64 key) ++ S.sum (S.xorL 54 (S.key64 key) ++ text)) := rfl
      generalize hMg : S.mac key text = M at *
      have HMg := Lib.hid hMg
      clear hMg
      have Hmac := Lib.hid hmac
      clear hmac
      generalize S.key64 key = K at *
      have hx1 : (S.xorL 54 K).length = 64 := by rw [S.xorL_length, hKl]
      have hx2 : (S.xorL 92 K).length = 64 := by rw [S.xorL_length, hKl]
      have hs1 := hT.x.string Try.underlying36 Try.underlying9
      have ha1 := str_add (S.xorL 54 K) text (by omega)
      have hsum1 := Lib.hid (fun W => rsum_any (S.xorL 54 K ++ text) W (by rw [List.length_append]; omega))
      have hl1 := S.sum_length (S.xorL 54 K ++ text)
      generalize S.sum (S.xorL 54 K ++ text) = s1 at *
      have ha2 := str_add (S.xorL 92 K) s1 (by omega)
      have hsum2 := Lib.hid (fun W => rsum_any (S.xorL 92 K ++ s1) W (by rw [List.length_append]; omega))
      have hM2 := Lib.hid (Hmac.out.symm)
      clear Hmac hKl
      generalize S.xorL 54 K ++ text = t1 at *
      generalize S.sum (S.xorL 92 K ++ s1) = s2 at *
      obtain rfl : s2 = M := hM2.out
      clear hM2
      generalize S.xorL 92 K = k2 at *
      go_wp2_with (first | (go_at_call 21; with_reducible refine (hsum1.out _).mono ?_; rintro e w5 ⟨rfl, hb5⟩) | (refine wpList_fresh (by rfl) 25 (by rfl) _ fresh_lab ?_; simp only [Act.put, List.setIfInBounds_toArray, List.set_cons_succ, List.set_cons_zero]; try simp only [World.size_alloc]) | ((refine wpList_store_blk (by rfl) 25 (.tmp 10) (.tmp 45) (by rfl) (0) (labA s1) (by rfl) (by rfl) ((Blk.new _ _ _)) ((by rw [labA_size, labA_size, hl1]; decide)) (size_lab s1 hl1) (labA_all _) ?_; simp only [Act.put]); intro w6 b6 o6; rw [splice_all _ _ (by rw [labA_size, labA_size, hl1]; decide)] at b6))
      have bel6 : Below wr.heap.size wr w6 := o6.below (hb5.alloc hb5.size _) hb5.size
      have T6 := hT.at_ bel6
      clear hT hs1 ha1 o6 hb5 bel6
      generalize w5.heap.size = gX at *
      have hcU : ∀ W, Stp w6.drew W → (convert 36 9 vb).run Try.prog W = .ok (.string ⟨k2.toArray⟩) W := fun W h => (Buf.at_ T6.y.drew h).string Try.underlying36 Try.underlying9
      have hcX : ∀ W, Stp w6.drew W → (convert 36 9 (.slice (some ⟨gX, 0, none⟩) 32 32)).run Try.prog W = .ok (.string ⟨s1.toArray⟩) W := fun W h => by
        have := conv_blk (b6.drew.at_ h) 36 Try.underlying36 32 32 (by omega)
        rwa [List.take_of_length_le (by omega)] at this
      apply wp_region_rel_below_tail 6 [[(7, none)], [(46, some 0)], [(10, none)], [(48, some 2)], [(47, some 1), (49, some 3)], [(50, some 4)]] [eqv _, eqv _, eqv _, eqv _, eqv _, eqv _] (by kernel_rfl) (by kernel_rfl)
      case hobs =>
        refine ⟨?_, ?_⟩
        · rintro L a1 w1 hT - - ⟨h7, -⟩   -- 0: Op.move t7
          have e7 : a1.tmps.getD 7 undef = _ := h7
          have f7 := getD_form e7
          clear h7
          (go_simp; exact left_intro rfl (Stp.refl _) trivial)
        refine ⟨?_, ?_⟩
        · rintro L a1 w1 hT - - ⟨h46, -⟩   -- 1: Op.convert 36 9 t46
          have e46 : a1.tmps.getD 46 undef = _ := h46
          have f46 := getD_form e46
          clear h46
          have c46 := hcU w1 hT
          (go_simp; exact left_intro rfl (Stp.refl _) trivial)
        refine ⟨?_, ?_⟩
        · rintro L a1 w1 hT - - ⟨h10, -⟩   -- 2: Op.slice 25 t10 none none none
          have e10 : a1.tmps.getD 10 undef = _ := h10
          have f10 := getD_form e10
          clear h10
          (go_simp; exact left_intro rfl (Stp.refl _) trivial)
        refine ⟨?_, ?_⟩
        · rintro L a1 w1 hT - - ⟨h48, -⟩   -- 3: Op.convert 36 9 t48
          have e48 : a1.tmps.getD 48 undef = _ := h48
          have f48 := getD_form e48
          clear h48
          have c48 := hcX w1 hT
          (go_simp; exact left_intro rfl (Stp.refl _) trivial)
        refine ⟨?_, ?_⟩
        · rintro L a1 w1 hT - - ⟨h47, h49, -⟩   -- 4: Op.binOp BinOp.add 9 t47 t49 9
          have e47 : a1.tmps.getD 47 undef = _ := h47
          have f47 := getD_form e47
          have e49 : a1.tmps.getD 49 undef = _ := h49
          have f49 := getD_form e49
          clear h47 h49
          (go_simp; exact left_intro rfl (Stp.refl _) trivial)
        refine ⟨?_, ?_⟩
        · rintro L a1 w1 hT - - ⟨h50, -⟩   -- 5: Op.call { value (Operand.func 21), args := #[t50], argTypes := #[9] }
          have e50 : a1.tmps.getD 50 undef = _ := h50
          have f50 := getD_form e50
          clear h50
          (go_simp; go_at_call 21; (with_reducible refine (hsum2.out _).mono ?_); rintro e w2 ⟨rfl, hb⟩; exact left_intro rfl (Stp.of hb) trivial)
        trivial
      case hmono => repeat (first | exact trivial | refine ⟨fun _ _ _ _ h => h, ?_⟩)
      case hend =>
        intro w2 hT
        rintro _ rfl _ rfl _ rfl _ rfl _ rfl _ rfl
        have T7 := T6.at_ hT
        simp only [Act.put, List.setIfInBounds_toArray, List.set_cons_succ, List.set_cons_zero, List.drop_succ_cons, List.drop_zero]
        go_wp2_with ((refine wpList_store_blk (by rfl) 25 (.tmp 4) (.tmp 51) (by rfl) (0) (labA s2) (by rfl) (by rfl) (T7.out) ((by rw [labA_size, labA_size, hm]; decide)) (size_lab s2 hm) (labA_all _) ?_; simp only [Act.put]); intro w9 b9 o9)
        rw [splice_all _ _ (by rw [labA_size, labA_size, hm]; decide)] at b9
        exact bodyPost_ret (v := .agg (labA s2)) (results_blk (by rfl) _ b9 _ (by rfl) Try.underlying25 (by rfl) (size_lab s2 hm)) rfl ⟨by rw [HMg.out], o9.below T7.bel (Nat.le_refl _)⟩
theorem rmac_any (key text : List UInt8) (w : World) (hk : key.length ≤ 100000000000000) (ht : text.length ≤ 100000000000000) :
    Calls Try.prog 29 #[.string ⟨key.toArray⟩, .string ⟨text.toArray⟩] w fun e w' => e = .returned (.agg (labA (S.mac key text))) ∧ Below w.heap.size w w' := by
  rcases Nat.lt_or_ge 64 key.length with h | h
  · exact rmac_long key text w h hk ht
  · exact rmac_short key text w h ht
end Go.Proofs.Ytgjmnhbkdccgpaa
