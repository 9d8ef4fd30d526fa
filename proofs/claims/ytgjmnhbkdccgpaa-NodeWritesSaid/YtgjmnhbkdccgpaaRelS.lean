/- Drawn regions that make two new variables and write each once: what holds in the midst, whatever the order. -/
import Derived.Test.YtgjmnhbkdccgpaaRelL
import Derived.Test.YtgjmnhbkdccgpaaKit6
namespace Go.Proofs.Ytgjmnhbkdccgpaa
open Go.RowKit

/-- A new variable: which operation makes it, its slot, which operation writes it; its cells before and after. -/
structure NewV where
  i : Nat
  d : Nat
  s : Nat
  z : Array Value
  C : Array Value
  t : TypeId
/-- The two in the region's midst. -/
structure Ph2 (N M g0 : Nat) (X Y : NewV) (L : Array Bool) (a : Act) (w : World) : Prop where
  siz : a.tmps.size = N
  lsz : L.size = M
  one : L.getD X.i false = true → ∃ b, a.tmps.getD X.d undef = .pointer (some ⟨b, 0, none⟩) ∧ g0 ≤ b ∧ Blk w b (if L.getD X.s false then X.C else X.z) X.t
  two : L.getD Y.i false = true → ∃ b, a.tmps.getD Y.d undef = .pointer (some ⟨b, 0, none⟩) ∧ g0 ≤ b ∧ Blk w b (if L.getD Y.s false then Y.C else Y.z) Y.t
  ne : L.getD X.i false = true → L.getD Y.i false = true → a.tmps.getD X.d undef ≠ a.tmps.getD Y.d undef
theorem Ph2.swap {N M g0 : Nat} {X Y : NewV} {L : Array Bool} {a : Act} {w : World} (h : Ph2 N M g0 X Y L a w) : Ph2 N M g0 Y X L a w := ⟨h.siz, h.lsz, h.two, h.one, fun p q => (h.ne q p).symm⟩
theorem Ph2.start {g0 M : Nat} {X Y : NewV} (a : Act) (w : World) : Ph2 a.tmps.size M g0 X Y (Array.replicate M false) a w := by
  have h : ∀ i, (Array.replicate M false).getD i false = false := fun i => by
    by_cases h : i < M <;> simp [h]
  refine ⟨rfl, by simp, fun h0 => ?_, fun h0 => ?_, fun h0 => ?_⟩ <;> (rw [h] at h0; cases h0)
theorem setL_ne (L : Array Bool) (i j : Nat) (h : i ≠ j) : (L.setIfInBounds i true).getD j false = L.getD j false := by
  simp [Array.getElem?_setIfInBounds_ne h]
theorem put_size' (a : Act) (d : Option Tmp) (v : Value) : (a.put d v).tmps.size = a.tmps.size := by cases d <;> simp [Act.put]
theorem put_other' (a : Act) (d : Option Tmp) (v : Value) (k : Nat) (h : d ≠ some k) : (a.put d v).tmps.getD k undef = a.tmps.getD k undef := by
  cases d with
  | none => rfl
  | some d =>
    have : d ≠ k := fun e => h (by rw [e])
    simp [Act.put, Array.getElem?_setIfInBounds_ne this]
theorem Ph2.other {N M g0 : Nat} {X Y : NewV} {L : Array Bool} {a : Act} {w w1 : World} {i : Nat} {d : Option Tmp} {v : Value} (h : Ph2 N M g0 X Y L a w) (hs : Stp w w1)
    (hn : i ≠ X.i ∧ i ≠ X.s ∧ i ≠ Y.i ∧ i ≠ Y.s) (hd : d ≠ some X.d ∧ d ≠ some Y.d) : Ph2 N M g0 X Y (L.setIfInBounds i true) (a.put d v) w1 := by
  obtain ⟨n1, n2, n3, n4⟩ := hn
  refine ⟨(put_size' ..).trans h.siz, by simp [h.lsz], ?_, ?_, ?_⟩
  · rw [setL_ne _ _ _ n1, setL_ne _ _ _ n2, put_other' _ _ _ _ hd.1]
    intro h0
    obtain ⟨b, e, hg, B⟩ := h.one h0
    exact ⟨b, e, hg, B.at_ hs⟩
  · rw [setL_ne _ _ _ n3, setL_ne _ _ _ n4, put_other' _ _ _ _ hd.2]
    intro h0
    obtain ⟨b, e, hg, B⟩ := h.two h0
    exact ⟨b, e, hg, B.at_ hs⟩
  · rw [setL_ne _ _ _ n1, setL_ne _ _ _ n3, put_other' _ _ _ _ hd.1, put_other' _ _ _ _ hd.2]
    exact h.ne
theorem Ph2.make {N M g0 : Nat} {X Y : NewV} {L : Array Bool} {a : Act} {w : World} (h : Ph2 N M g0 X Y L a w) (hg0 : g0 ≤ w.heap.size) (hl : L.getD X.s false = false) (hd : X.d < N)
    (hn : X.i ≠ X.s ∧ X.i ≠ Y.i ∧ X.i ≠ Y.s ∧ X.d ≠ Y.d) : Ph2 N M g0 X Y (L.setIfInBounds X.i true) (a.put (some X.d) (.pointer (some ⟨w.heap.size, 0, none⟩))) (w.alloc (.cells X.z X.t)) := by
  obtain ⟨n1, n2, n3, n4⟩ := hn
  have eX : (a.put (some X.d) (.pointer (some ⟨w.heap.size, 0, none⟩))).tmps.getD X.d undef = .pointer (some ⟨w.heap.size, 0, none⟩) := by rw [put_getD _ _ _ _ (by rw [h.siz]; exact hd), if_pos rfl]
  have eY : (a.put (some X.d) (.pointer (some ⟨w.heap.size, 0, none⟩))).tmps.getD Y.d undef = a.tmps.getD Y.d undef := put_other' _ _ _ _ (fun e => n4 (by injection e))
  refine ⟨(put_size' ..).trans h.siz, by simp [h.lsz], ?_, ?_, ?_⟩
  · intro _
    rw [setL_ne _ _ _ n1, hl, eX]
    exact ⟨_, rfl, hg0, Blk.new w _ _⟩
  · rw [setL_ne _ _ _ n2, setL_ne _ _ _ n3, eY]
    intro h0
    obtain ⟨b, e, hg, B⟩ := h.two h0
    exact ⟨b, e, hg, B.alloc _⟩
  · rw [setL_ne _ _ _ n2, eX, eY]
    intro _ h0 he
    obtain ⟨b, e, hg, B⟩ := h.two h0
    rw [e] at he
    injection he with he; injection he with he; injection he with he
    have := B.lt
    omega
theorem Ph2.write {N M g0 : Nat} {X Y : NewV} {L : Array Bool} {a : Act} {w w1 : World} {b : Nat} {v : Value} (h : Ph2 N M g0 X Y L a w) (he : a.tmps.getD X.d undef = .pointer (some ⟨b, 0, none⟩)) (hb : g0 ≤ b) (hi : L.getD X.i false = true) (hs : X.s < M)
    (B1 : Blk w1 b X.C X.t) (ho : Only b w w1) (hn : X.s ≠ X.i ∧ X.s ≠ Y.i ∧ X.s ≠ Y.s) : Ph2 N M g0 X Y (L.setIfInBounds X.s true) (a.put none v) w1 := by
  obtain ⟨n1, n2, n3⟩ := hn
  refine ⟨h.siz, by simp [h.lsz], ?_, ?_, ?_⟩
  · intro _
    rw [setL _ _ _ (by rw [h.lsz]; exact hs), if_pos rfl]
    exact ⟨b, he, hb, B1⟩
  · rw [setL_ne _ _ _ n2, setL_ne _ _ _ n3]
    intro h0
    obtain ⟨b2, e, hg, B⟩ := h.two h0
    refine ⟨b2, e, hg, B.only ho fun hne => h.ne hi h0 ?_⟩
    rw [he, e, hne]
  · rw [setL_ne _ _ _ n1, setL_ne _ _ _ n2]
    exact h.ne
/-- Steps that change nothing of what lay below. -/
def StpG (g0 : Nat) (a w : World) : Prop := Below g0 a w
theorem StpG.refl (g0 : Nat) (a : World) : StpG g0 a a := Below.refl _ _
theorem StpG.trans {g0 : Nat} (a b c : World) (h : StpG g0 a b) (k : StpG g0 b c) : StpG g0 a c := Below.trans h k
theorem StpG.of {g0 : Nat} {a b : World} (h : Stp a b) (hg : g0 ≤ a.heap.size) : StpG g0 a b := ⟨h.os, h.tape, h.output, h.size, fun k hk => h.block k (Nat.lt_of_lt_of_le hk hg)⟩
theorem StpG.only {g0 b : Nat} {a w : World} (h : Only b a w) (hg : g0 ≤ b) : StpG g0 a w := h.below (Below.refl _ _) hg
end Go.Proofs.Ytgjmnhbkdccgpaa
