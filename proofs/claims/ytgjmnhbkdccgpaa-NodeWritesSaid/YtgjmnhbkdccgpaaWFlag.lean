/- The walks of code.Writer.Flag and of node.write. -/
import Derived.Test.YtgjmnhbkdccgpaaWWLab
import Derived.Test.YtgjmnhbkdccgpaaWNGood
import Derived.Test.YtgjmnhbkdccgpaaWNumB
namespace Go.Proofs.Ytgjmnhbkdccgpaa
open Go.RowKit

namespace D
def flagB (b : Bool) : List UInt8 := [if b then 1 else 0]
/-- An item's bytes. -/
def itemW (n : Nat) (p s : List UInt8) (t : Nat) : List UInt8 := numB n ++ p ++ s ++ numB t
end D
theorem Wto.pre {w w0 w' : World} {g : Nat} {v v' : Value} (h0 : Below w.heap.size w w0) (ht : Wto w0 g v w' v') : Wto w g v w' v' := by
  have hs := h0.size
  refine ⟨⟨ht.kept.os.trans h0.os, ht.kept.tape.trans h0.tape, ht.kept.output.trans h0.output, Nat.le_trans hs ht.kept.size, fun k hk hg hr => (ht.kept.block k (by omega) hg hr).trans (h0.block k hk)⟩, ?_⟩
  rcases ht.row with e | ⟨k, hk, e⟩
  · exact .inl e
  · exact .inr ⟨k, by omega, e⟩
set_option maxRecDepth 100000 in
set_option maxHeartbeats 1000000 in
theorem wflag_any (b : Bool) (g : Nat) (v : Value) (xs : List UInt8) (w : World) (h : Wst w g v xs) (hx : xs.length ≤ 140737488355000) :
    Calls Try.prog 70 #[.pointer (some ⟨g, 0, none⟩), .bool b] w fun e w' => e = .returned (.tuple #[]) ∧ ∃ v', Wst w' g v' (xs ++ D.flagB b) ∧ Wto w g v w' v' := by
  have c0 := h.blk.cellv (i := 0) (v := v) rfl
  have f0 := h.blk.free 0
  cases b with
  | false =>
    have hkn : (((0 : UInt8)).toNat : Int) = 0 := rfl
    go_enter Try.func70, Try.ntmps70
    go_wp2_with (at_builtin; refine wpList_append_buf rfl (.tmp 10) (.tmp 12) 36 rfl Try.underlying36 rfl ((h.buf).alloc _) ⟨w.heap.size, 0, none⟩ 1 1 [(0 : UInt8)] rfl rfl (cells1 _ _ _ hkn _) (by omega) ?_; intro v1 w1 hb1 hg1 hr1; have bk1 := (((h.blk)).alloc _).grown hg1 (Ne.symm h.ne); have c1 := bk1.cellv (i := 0) (v := v) rfl; have f1 := bk1.free 0; obtain ⟨gr, cr, rfl⟩ := hb1.form_ne (by simp); simp only [List.length_append, List.length_cons, List.length_nil, Nat.zero_add] at hb1 hr1)
    obtain ⟨hw1, ht1⟩ := wst_append h hb1 (below_alloc1 _ _) hg1 hr1
    go_end0
    exact ⟨rfl, _, hw1, ht1⟩
  | true =>
    have hkn : (((1 : UInt8)).toNat : Int) = 1 := rfl
    go_enter Try.func70, Try.ntmps70
    go_wp2_with (at_builtin; refine wpList_append_buf rfl (.tmp 10) (.tmp 12) 36 rfl Try.underlying36 rfl ((h.buf).alloc _) ⟨w.heap.size, 0, none⟩ 1 1 [(1 : UInt8)] rfl rfl (cells1 _ _ _ hkn _) (by omega) ?_; intro v1 w1 hb1 hg1 hr1; have bk1 := (((h.blk)).alloc _).grown hg1 (Ne.symm h.ne); have c1 := bk1.cellv (i := 0) (v := v) rfl; have f1 := bk1.free 0; obtain ⟨gr, cr, rfl⟩ := hb1.form_ne (by simp); simp only [List.length_append, List.length_cons, List.length_nil, Nat.zero_add] at hb1 hr1)
    obtain ⟨hw1, ht1⟩ := wst_append h hb1 (below_alloc1 _ _) hg1 hr1
    go_end0
    exact ⟨rfl, _, hw1, ht1⟩
end Go.Proofs.Ytgjmnhbkdccgpaa
