/- The walks of code.Writer: Number, Label, Done, of a writer without a fault. -/
import Derived.Test.YtgjmnhbkdccgpaaKit3
import Derived.Test.YtgjmnhbkdccgpaaPureCode
namespace Go.Proofs.Ytgjmnhbkdccgpaa
open Go.RowKit

/-- A writer at block g that has written xs, and no fault. -/
structure Wst (W : World) (g : Nat) (v : Value) (xs : List UInt8) : Prop where
  blk : Blk W g #[v, .int .i64 0] 111
  buf : Buf W v xs
  ne : v.ownBlock ≠ some g
/-- Only block g and the row r may have changed. -/
structure KeptBut (w w' : World) (g : Nat) (r : Option Nat) : Prop where
  os : w'.os = w.os
  tape : w'.tape = w.tape
  output : w'.output = w.output
  size : w.heap.size ≤ w'.heap.size
  block : ∀ k, k < w.heap.size → k ≠ g → some k ≠ r → w'.heap[k]? = w.heap[k]?

/-- What a step of a writer leaves: only block g and the writer's own row have changed; the row is the same, or a new one. -/
structure Wto (w : World) (g : Nat) (v : Value) (w' : World) (v' : Value) : Prop where
  kept : KeptBut w w' g v.ownBlock
  row : v'.ownBlock = v.ownBlock ∨ ∃ k, w.heap.size ≤ k ∧ v'.ownBlock = some k
theorem Wto.refl (w : World) (g : Nat) (v : Value) : Wto w g v w v := ⟨⟨rfl, rfl, rfl, Nat.le_refl _, fun _ _ _ _ => rfl⟩, .inl rfl⟩
theorem Wto.trans {a b c : World} {g : Nat} {u v x : Value} (h : Wto a g u b v) (k : Wto b g v c x) : Wto a g u c x := by
  refine ⟨⟨k.kept.os.trans h.kept.os, k.kept.tape.trans h.kept.tape, k.kept.output.trans h.kept.output, Nat.le_trans h.kept.size k.kept.size, fun i hi hg hr => (k.kept.block i (Nat.lt_of_lt_of_le hi h.kept.size) hg ?_).trans (h.kept.block i hi hg hr)⟩, ?_⟩
  · intro e
    rcases h.row with e1 | ⟨j, hj, e1⟩
    · rw [e1] at e; exact hr e
    · rw [e1] at e; injection e with e; omega
  · rcases k.row with e | ⟨j, hj, e⟩
    · rw [e]; exact h.row
    · exact .inr ⟨j, Nat.le_trans h.kept.size hj, e⟩
/-- A writer's append: the new bytes behind the old ones. -/
theorem wst_append {w w0 w1 : World} {g : Nat} {v v1 : Value} {xs ys : List UInt8} (h : Wst w g v xs) (hb : Buf w1 v1 ys) (h0 : Below w.heap.size w w0) (hg : w0.grownBy w1 v.ownBlock)
    (hr : v1.ownBlock = v.ownBlock ∨ ∃ k, w0.heap.size ≤ k ∧ v1.ownBlock = some k) : Wst (w1.setCell ⟨g, 0, none⟩ v1) g v1 ys ∧ Wto w g v (w1.setCell ⟨g, 0, none⟩ v1) v1 := by
  have hlt := h.blk.lt
  have hs0 := h0.size
  have hne : v1.ownBlock ≠ some g := by
    rcases hr with e | ⟨k, hk, e⟩
    · rw [e]; exact h.ne
    · rw [e]; intro he; injection he with he; omega
  have hb1 := (h.blk.at_ h0).grown hg (Ne.symm h.ne)
  have hb2 := hb1.set_ 0 v1
  refine ⟨⟨hb2, hb.kept fun k hk => Below.heap_setCell _ _ _ _ (by rintro rfl; exact hne hk), hne⟩, ⟨⟨?_, ?_, ?_, ?_, ?_⟩, ?_⟩⟩
  · exact hg.os.trans h0.os
  · exact hg.tape.trans h0.tape
  · exact hg.output.trans h0.output
  · have := hg.size; simp [World.setCell]; omega
  · intro k hk hkg hkr
    rw [Below.heap_setCell _ _ _ _ hkg, hg.block k (by omega) hkr]
    exact h0.block k hk
  · rcases hr with e | ⟨k, hk, e⟩
    · exact .inl e
    · exact .inr ⟨k, by omega, e⟩

section
variable {w w' : World} {g b B : Nat} {v v' : Value} {cs : Array Value} {t : TypeId}
theorem Blk.wto (h : Blk w b cs t) (ht : Wto w g v w' v') (hb : b ≠ g) (hv : v.ownBlock ≠ some b) : Blk w' b cs t := (ht.kept.block b h.lt hb (Ne.symm hv)).trans h
theorem Wto.own_ne (ht : Wto w g v w' v') (hlt : b < w.heap.size) (hv : v.ownBlock ≠ some b) : v'.ownBlock ≠ some b := by
  rcases ht.row with e | ⟨k, hk, e⟩
  · rw [e]; exact hv
  · rw [e]; intro h; injection h with h; omega
theorem Wto.below {a : World} (ht : Wto w g v w' v') (hB : Below B a w) (hBw : B ≤ w.heap.size) (hg : B ≤ g) (hv : ∀ b, b < B → v.ownBlock ≠ some b) : Below B a w' :=
  ⟨ht.kept.os.trans hB.os, ht.kept.tape.trans hB.tape, ht.kept.output.trans hB.output, Nat.le_trans hB.size ht.kept.size, fun k hk => (ht.kept.block k (by omega) (by omega) (Ne.symm (hv k hk))).trans (hB.block k hk)⟩
theorem Wst.below {xs : List UInt8} (h : Wst w g v xs) (hb : Below w.heap.size w w') : Wst w' g v xs :=
  ⟨h.blk.at_ hb, h.buf.kept fun k hk => hb.block k (h.buf.lt hk), h.ne⟩
theorem wst_new (w : World) : Wst (w.alloc (.cells #[.slice none 0 0, .int .i64 0] 111)) w.heap.size (.slice none 0 0) [] := ⟨Blk.new _ _ _, Buf.nil _, by simp [Value.ownBlock]⟩
end

set_option maxHeartbeats 2000000 in
theorem number_any (n : Nat) (hn : n < 9223372036854775808) (g : Nat) (v : Value) (xs : List UInt8) (w : World) (h : Wst w g v xs) (hx : xs.length ≤ 140737488355000) :
    Calls Try.prog 72 #[.pointer (some ⟨g, 0, none⟩), .int .i64 (n : Int)] w fun e w' => e = .returned (.tuple #[]) ∧ ∃ v', Wst w' g v' (xs ++ D.numB n) ∧ Wto w g v w' v' := by
  have d0 : decide ((n : Int) < 0) = false := by simp
  go_enter Try.func72, Try.ntmps72
  go_wp2
  go_loop [4, 5] (fun s x => ∃ k m : Nat, m < 9223372036854775808 ∧ D.blen n = k + D.blen m ∧ s = .int .i64 (k : Int) ∧ x = .int .i64 (m : Int)) (fun _ x => (intOf x).toNat)
  case atStart => exact ⟨0, n, hn, by omega, by simp, rfl⟩
  case round =>
    obtain ⟨k, m, hm, hk, rfl, rfl⟩ := hrel
    have hk8 := D.blen_le 8 n (by omega)
    by_cases h0 : m = 0
    · subst h0
      rw [D.blen_zero, Nat.add_zero] at hk
      have c0 := h.blk.cellv (i := 0) (v := v) rfl
      have f0 := h.blk.free 0
      have hkc : UInt8.ofNat k = UInt8.ofNat (D.blen n) := by rw [hk]
      have hkn : ((UInt8.ofNat k).toNat : Int) = (k : Int) := by rw [UInt8.toNat_ofNat']; omega
      have Hk := Lib.hid hk
      have Hkc := Lib.hid hkc
      have hkb : (k : Int) ≤ 8 := by omega
      clear hk hkc hk8 hm d0
      go_wp2_with (at_builtin; refine wpList_append_buf rfl (.tmp 22) (.tmp 25) 36 rfl Try.underlying36 rfl ((h.buf).alloc _) ⟨w.heap.size, 0, none⟩ 1 1 [UInt8.ofNat k] rfl rfl (cells1 _ _ _ hkn _) (by omega) ?_; intro v1 w1 hb1 hg1 hr1; have bk1 := (((h.blk)).alloc _).grown hg1 (Ne.symm h.ne); have c1 := bk1.cellv (i := 0) (v := v) rfl; have f1 := bk1.free 0; obtain ⟨gr, cr, rfl⟩ := hb1.form_ne (by simp); simp only [List.length_append, List.length_cons, List.length_nil, Nat.zero_add] at hb1 hr1)
      obtain ⟨hw1, ht1⟩ := wst_append h hb1 (below_alloc1 _ _) hg1 hr1
      have hsz := ht1.kept.size
      go_loopw [6] (fun i wr => ∃ (j : Nat) (z : Int) (v2 : Value) (ys : List UInt8), z + 1 + j = k ∧ -1 ≤ z ∧ i = .int .i64 z ∧ Hid (ys = xs ++ UInt8.ofNat k :: (D.bek n k).take j) ∧ ys.length ≤ 140737488355000 + 1 + j ∧ Wst wr g v2 ys ∧ Wto w g v wr v2) (fun i _ => (intOf i + 1).toNat)
      case atStart => exact ⟨0, (k : Int) - 1, _, _, by omega, by omega, rfl, Lib.hid (by simp), by simp; omega, hw1, ht1⟩
      case round =>
        obtain ⟨j, z, v2, ys, hjm, hz1, rfl, Hys, hyl, hw2, ht2⟩ := hrel
        clear c0 f0 c1 f1 bk1 hb1 hg1 hr1 hsz hw1
        by_cases hm0 : z = -1
        · subst hm0
          obtain rfl : k = j := by omega
          go_wp2
          go_end0
          refine ⟨rfl, v2, ?_, ht2⟩
          have e := Hys.out
          rw [List.take_of_length_le (by rw [D.bek_length]; omega)] at e
          rw [D.numB, D.be, Hk.out, ← e]
          exact hw2
        · obtain ⟨m, rfl⟩ := Int.eq_ofNat_of_zero_le (show 0 ≤ z by omega)
          have c2 := hw2.blk.cellv (i := 0) (v := v2) rfl
          have f2 := hw2.blk.free 0
          have hmb : (m : Int) < 8 := by omega
          have hd := D.shr8 n m
          have hq : ((UInt8.ofNat (n / 256 ^ m)).toNat : Int) = IntKind.u8.wrap ((n / 256 ^ m : Nat) : Int) := by rw [D.u8_mod, IntKind.wrap_u8]
          have c3 : ∀ o, (wr.alloc o).cell? ⟨g, 0, none⟩ = some v2 := fun o => (hw2.blk.alloc o).cellv (i := 0) rfl
          have f3 : ∀ o, (wr.alloc o).frozen? ⟨g, 0, none⟩ = false := fun o => (hw2.blk.alloc o).free 0
          have Hq : Hid (D.bek n k = (D.bek n k).take j ++ UInt8.ofNat (n / 256 ^ m) :: (D.bek n k).drop (j + 1)) := Lib.hid (D.bek_at n k j m (by omega))
          have hqn := Int.natCast_nonneg (n / 256 ^ m)
          have hyl2 : ys.length + 1 ≤ 140737488355328 := by omega
          generalize n / 256 ^ m = q at hd hq Hq hqn
          have hdr : IntKind.i64.wrap (8 * (m : Int)) = 8 * (m : Int) := IntWalk.i64_in _ (by omega)
          go_wp2
          go_region_law (refine step_append_buf rfl (.tmp 39) (.tmp 45) 36 rfl Try.underlying36 rfl ((Buf.drew hw2.buf).alloc _) ⟨wr.heap.size, 0, none⟩ 1 1 [UInt8.ofNat q] rfl rfl (cells1 _ _ _ hq _) hyl2 ?_; intro v1 w1 hb1 hg1 hr1; have bk1 := (hw2.blk.drew.alloc _).grown hg1 (Ne.symm hw2.ne); have c1 := bk1.cellv (i := 0) (v := v2) rfl; have f1 := bk1.free 0; obtain ⟨gr, cr, rfl⟩ := hb1.form_ne (by simp); simp only [List.length_append, List.length_cons, List.length_nil, Nat.zero_add] at hb1 hr1)
          all_goals
            obtain ⟨hw3, ht3⟩ := wst_append hw2 hb1 (below_alloc1 _ _).drew hg1 hr1
            have e2 : ys ++ [UInt8.ofNat q] = xs ++ UInt8.ofNat k :: (D.bek n k).take (j + 1) := by
              rw [Hys.out, D.bek_succ Hq.out (by rw [D.bek_length]; omega), List.append_assoc, List.cons_append]
            go_wp2
            go_roundw
            case rel => exact ⟨j + 1, (m : Int) - 1, _, _, by omega, by omega, by go_num, Lib.hid e2, by simp; omega, hw3, ht2.trans ht3⟩
            case measure => simp [intOf]
    · have d1 : decide ((0 : Int) < (m : Int)) = true := by simp; omega
      have hpm : 0 < m := by omega
      have hd : (m : Int) / 256 = ((m / 256 : Nat) : Int) := by omega
      have hk2 := Lib.hid (show D.blen n = (k + 1) + D.blen (m / 256) by rw [hk, D.blen_pos h0]; omega)
      have hm2 := Lib.hid (show m / 256 < 9223372036854775808 ∧ m / 256 < m by omega)
      have hkb : (k : Int) < 9 := by omega
      generalize m / 256 = m2 at hd hk2 hm2
      clear hk hm hk8 hn hx h0
      go_wp2
      go_round
      case rel => exact ⟨k + 1, m2, hm2.out.1, hk2.out, by go_num, by go_num⟩
      case measure => have := hm2.out.2; simp [intOf]; omega
set_option maxHeartbeats 1000000 in
theorem wdone_any (g : Nat) (v : Value) (xs : List UInt8) (w : World) (h : Wst w g v xs) (hx : xs.length ≤ 65536) :
    Calls Try.prog 73 #[.pointer (some ⟨g, 0, none⟩)] w fun e w' => e = .returned (.tuple #[.string ⟨xs.toArray⟩, .int .i64 0]) ∧ w = w' := by
  have c0 := h.blk.cellv (i := 0) (v := v) rfl
  have c1 := h.blk.cellv (i := 1) (v := .int .i64 0) rfl
  have hs := h.buf.string Try.underlying36 Try.underlying9
  have d1 : decide ((65536 : Int) < (xs.length : Int)) = false := by simp; omega
  have d2 : decide (65536 < xs.length) = false := by simp; omega
  have hx' := Int.ofNat_le.2 hx
  rcases h.buf.form with ⟨rfl, rfl⟩ | ⟨g2, cap, rfl⟩
  · go_enter Try.func73, Try.ntmps73
    go_wp2
    go_ret2
    exact ⟨rfl, rfl⟩
  · go_enter Try.func73, Try.ntmps73
    go_wp2
    go_ret2
    exact ⟨rfl, rfl⟩
end Go.Proofs.Ytgjmnhbkdccgpaa
