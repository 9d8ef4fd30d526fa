/- The walks of Cut and of awake; labels compared; texts and bytes as arguments. -/
import Derived.Test.YtgjmnhbkdccgpaaWRSum
import Derived.Test.YtgjmnhbkdccgpaaRow
namespace Go.Proofs.Ytgjmnhbkdccgpaa
open Go.ChangeShapes Go.WideShapes Go.ChangeAt Go.RowKit

section
variable {H : Type} {enc : TypeId × Value → H} {W : World} {base : Nat} {sp : Nat → Bool} {held : Bool} {v : Value} {d : DataW H} {p : List MemPlace}
set_option maxRecDepth 1000000 in
theorem open_text (hval : Value.okWide Try.prog W .any base 9 v) (h : DataW.Trod enc Try.prog W 0 sp held 9 v d p) : ∃ l : List UInt8, v = .string ⟨l.toArray⟩ ∧ l.length ≤ 9223372036854775807 := by
  obtain ⟨s, rfl, _, _, hs⟩ := Go.ChangeMaps.open_string Try.underlying9 hval h
  refine ⟨s.data.toList, rfl, ?_⟩
  rw [Array.length_toList]
  unfold maxLen at hs
  exact hs
set_option maxRecDepth 1000000 in
theorem open_byte (hval : Value.okWide Try.prog W .any base 5 v) (h : DataW.Trod enc Try.prog W 0 sp held 5 v d p) : ∃ b : UInt8, v = byteV b := by
  obtain ⟨n, rfl, _, _, hwf⟩ := open_int Try.underlying5 hval h
  have h2 := hwf
  simp only [Lit.wf, IntKind.min, IntKind.max, IntKind.signed, IntKind.bits, Bool.and_eq_true] at h2
  have h0 : 0 ≤ n := by have := h2.1; simpa using this
  have h1 : n ≤ 255 := by have := h2.2; simpa using this
  refine ⟨UInt8.ofNat n.toNat, ?_⟩
  unfold byteV
  rw [UInt8.toNat_ofNat']
  congr 1
  omega
end
set_option maxHeartbeats 1000000 in
/-- Cut. -/
theorem lcut_any (s : List UInt8) (n : Nat) (w : World) :
    Calls Try.prog 18 #[.string ⟨s.toArray⟩, .int .i64 (n : Int)] w fun e w' => e = .returned (.string ⟨(s.take n).toArray⟩) ∧ w = w' := by
  have hz := str_size s
  by_cases h : n < s.length
  · have d1 : decide ((n : Int) < ((⟨s.toArray⟩ : ByteArray).size : Int)) = true := by rw [hz]; simp; omega
    have d1' : decide (n < (⟨s.toArray⟩ : ByteArray).size) = true := by rw [hz]; simp; omega
    have hcut := str_upto_ s n (n : Int) rfl (by omega)
    clear hz h
    generalize s.take n = t at *
    generalize (⟨s.toArray⟩ : ByteArray) = S at *
    go_enter Try.func18, Try.ntmps18
    go_wp2
    go_ret
    exact ⟨rfl, rfl⟩
  · have d1 : decide ((n : Int) < ((⟨s.toArray⟩ : ByteArray).size : Int)) = false := by rw [hz]; simp; omega
    have d1' : decide (n < (⟨s.toArray⟩ : ByteArray).size) = false := by rw [hz]; simp; omega
    have Ht := Lib.hid (List.take_of_length_le (show s.length ≤ n by omega))
    clear hz h
    generalize hS : (⟨s.toArray⟩ : ByteArray) = S at *
    have HS := Lib.hid hS
    clear hS
    go_enter Try.func18, Try.ntmps18
    go_wp2
    go_ret
    rw [Ht.out, HS.out]
    exact ⟨rfl, rfl⟩
theorem cells_u8 : Try.prog.cellsOf 5 = 1 := by kernel_rfl
theorem cells_lab : Try.prog.cellsOf 25 = 32 := by kernel_rfl
theorem formed_lab (l : List UInt8) (h : l.length = 32) : (Value.agg (labA l)).formed Try.prog 25 = true := by
  simp [Value.formed, Try.underlying25, labA_size, h, cells_lab]
theorem lits_lab (l : List UInt8) (h : l.length = 32) (d : Nat) : Try.prog.keyLits (d + 2) 25 (labA l).toList = some (l.map byteL) := by
  unfold labA
  rw [List.toList_toArray]
  exact lits_bytes l h Try.underlying25 Try.underlying5 cells_u8 cells_lab d
theorem eql_lab (l m : List UInt8) (hl : l.length = 32) (hm : m.length = 32) (w : World) : (binOp .eql 25 (.agg (labA l)) (.agg (labA m))).run Try.prog w = .ok (.bool (l == m)) w :=
  eql_lits (m := 2) (D := 2) (D' := 2) (by kernel_rfl) (by omega) (formed_lab l hl) (formed_lab m hm) (lits_lab l hl 0) (lits_lab m hm 0) (by rw [map_byteL]; simp) w
theorem neq_lab (l m : List UInt8) (hl : l.length = 32) (hm : m.length = 32) (w : World) : (binOp .neq 25 (.agg (labA l)) (.agg (labA m))).run Try.prog w = .ok (.bool (!(l == m))) w :=
  neq_lits (m := 2) (D := 2) (D' := 2) (by kernel_rfl) (by omega) (formed_lab l hl) (formed_lab m hm) (lits_lab l hl 0) (lits_lab m hm 0) (by rw [map_byteL]; simp) w
theorem guard_lab : Try.prog.eqGuardType Try.prog.depth 25 = false := by kernel_rfl
set_option maxRecDepth 100000 in
set_option maxHeartbeats 1000000 in
/-- awake. -/
theorem awake_any (w : World) : Calls Try.prog 19 #[] w fun e w' => e = .returned (.bool true) ∧ Below w.heap.size w w' := by
  have h1 : ∀ W, Calls Try.prog 20 #[.string ⟨#[97, 98, 99]⟩] W fun e w' => e = .returned (.agg (labA (S.sum [97, 98, 99]))) ∧ Below W.heap.size W w' := fun W => sum_any [97, 98, 99] W (by decide)
  obtain ⟨a0, a1, a31⟩ := S.abc
  have hl := S.sum_length [97, 98, 99]
  generalize S.sum [97, 98, 99] = s at *
  have H1 := Lib.hid h1
  clear h1
  go_enter Try.func19, Try.ntmps19
  go_wp2_with (first | (go_at_call 20; with_reducible refine (H1.out _).mono ?_; rintro e w1 ⟨rfl, hb1⟩) | (refine wpList_fresh (by rfl) 25 (by rfl) _ fresh_lab ?_; simp only [Act.put, List.setIfInBounds_toArray, List.set_cons_succ, List.set_cons_zero]; try simp only [World.size_alloc]) | ((refine wpList_store_blk (by rfl) 25 (.tmp 1) (.tmp 2) (by rfl) (0) (labA s) (by rfl) (by rfl) ((Blk.new _ _ _)) ((by rw [labA_size, labA_size, hl]; decide)) (size_lab s hl) (labA_all _) ?_; simp only [Act.put]); intro w5 b5 o5; rw [splice_all _ _ (by rw [labA_size, labA_size, hl]; decide)] at b5; have c0 := b5.cellv (labA_get s 0 (by omega)); have c1 := b5.cellv (labA_get s 1 (by omega)); have c31 := b5.cellv (labA_get s 31 (by omega)); rw [a0] at c0; rw [a1] at c1; rw [a31] at c31))
  go_ret
  exact ⟨rfl, o5.below (hb1.alloc hb1.size _) hb1.size⟩
end Go.Proofs.Ytgjmnhbkdccgpaa
