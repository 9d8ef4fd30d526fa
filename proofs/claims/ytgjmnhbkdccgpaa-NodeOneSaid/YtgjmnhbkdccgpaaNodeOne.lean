/- NodeOne: there is one spelling of a node. No condition. -/
import Derived.Test.YtgjmnhbkdccgpaaNRead2
namespace Go.Proofs.Ytgjmnhbkdccgpaa
open Go.ChangeShapes Go.WideShapes Go.ChangeAt Go.RowKit

section
variable {H : Type} {enc : TypeId × Value → H} {W : World} {base : Nat} {sp : Nat → Bool} {held : Bool} {v : Value} {d : DataW H} {p : List MemPlace}
set_option maxRecDepth 1000000 in
theorem open_textN (hval : Value.okWide Try.prog W .any base 9 v) (h : DataW.Trod enc Try.prog W 0 sp held 9 v d p) : ∃ l : List UInt8, v = .string ⟨l.toArray⟩ ∧ l.length ≤ 9223372036854775807 := by
  obtain ⟨s, rfl, _, _, hs⟩ := Go.ChangeMaps.open_string Try.underlying9 hval h
  refine ⟨s.data.toList, rfl, ?_⟩
  rw [Array.length_toList]
  unfold maxLen at hs
  exact hs
end
namespace D
/-- What a reader makes has labels, and numbers that are no greater than a number may be. -/
def Nd.ok : Nd → Prop
  | .leaf l v t => l.length = 32 ∧ v.length = 32 ∧ t < 9223372036854775808
  | .inner a b => (a.1 < 9223372036854775808 ∧ a.2.1.length = 32 ∧ a.2.2.1.length = 32 ∧ a.2.2.2 < 9223372036854775808) ∧ (b.1 < 9223372036854775808 ∧ b.2.1.length = 32 ∧ b.2.2.1.length = 32 ∧ b.2.2.2 < 9223372036854775808)
theorem ritem_ok (s : List UInt8) (r : Rd) : (ritem s r).1.1 < 9223372036854775808 ∧ (ritem s r).1.2.1.length = 32 ∧ (ritem s r).1.2.2.1.length = 32 ∧ (ritem s r).1.2.2.2 < 9223372036854775808 :=
  ⟨number_lt _ _, label_len _ _, label_len _ _, number_lt _ _⟩
theorem rleaf_ok (s : List UInt8) (r : Rd) : (rleaf s r).1.1.length = 32 ∧ (rleaf s r).1.2.1.length = 32 ∧ (rleaf s r).1.2.2 < 9223372036854775808 := ⟨label_len _ _, label_len _ _, number_lt _ _⟩
theorem rnode_ok (s : List UInt8) : (rnode s).1.ok := by
  have hR : rnode s = if (flag s ⟨0, 0⟩).1 = true then (.inner (ritem s (flag s ⟨0, 0⟩).2).1 (ritem s (ritem s (flag s ⟨0, 0⟩).2).2).1, (ritem s (ritem s (flag s ⟨0, 0⟩).2).2).2)
    else (.leaf (rleaf s (flag s ⟨0, 0⟩).2).1.1 (rleaf s (flag s ⟨0, 0⟩).2).1.2.1 (rleaf s (flag s ⟨0, 0⟩).2).1.2.2, (rleaf s (flag s ⟨0, 0⟩).2).2) := rfl
  have a1 := ritem_ok s (flag s ⟨0, 0⟩).2
  have a2 := ritem_ok s (ritem s (flag s ⟨0, 0⟩).2).2
  have a3 := rleaf_ok s (flag s ⟨0, 0⟩).2
  generalize rnode s = N at *
  generalize ritem s (ritem s (flag s ⟨0, 0⟩).2).2 = Y at *
  generalize ritem s (flag s ⟨0, 0⟩).2 = X at *
  generalize rleaf s (flag s ⟨0, 0⟩).2 = Z at *
  generalize (flag s ⟨0, 0⟩).1 = f at *
  cases f with
  | true => rw [if_pos rfl] at hR; subst hR; exact ⟨a1, a2⟩
  | false => rw [if_neg (by simp)] at hR; subst hR; exact a3
theorem err_vals (N : Nd) : N.err = 0 ∨ N.err = 1 ∨ N.err = 3 := by
  match N with
  | .leaf l v t => exact (leafE_vals t).imp id .inl
  | .inner a b => exact innerE_vals a.1 a.2.1 a.2.2.2 b.1 b.2.1 b.2.2.2
/-- A node's bytes. -/
def Nd.out (N : Nd) : List UInt8 := if N.err = 0 then N.text else []
end D
theorem nbytesNd_any (N : D.Nd) (hN : N.ok) (w : World) :
    Calls Try.prog 44 #[N.cells] w fun e w' => e = .returned (.tuple #[.string ⟨N.out.toArray⟩, .int .i64 N.err]) ∧ Below w.heap.size w w' := by
  match N, hN with
  | .leaf l v t, hN =>
    have h := nbytesLeaf_any l v (t : Int) hN.1 hN.2.1 w
    have e : D.leafO l v (t : Int) = (D.Nd.leaf l v t).out := by
      have e1 : D.leafW l v t = D.flagW false ++ D.wLeaf (l, v, t) := by
        show D.flagB false ++ l ++ v ++ D.numB t = D.flagB false ++ (l ++ v ++ D.numB t)
        simp only [List.append_assoc]
      show (if D.leafE (t : Int) = 0 then D.leafW l v (t : Int).toNat else []) = (if D.leafE (t : Int) = 0 then D.flagW false ++ D.wLeaf (l, v, t) else [])
      rw [Int.toNat_natCast, e1]
    rw [e] at h
    exact h
  | .inner a b, hN =>
    obtain ⟨⟨h1, h2, h3, _⟩, k1, k2, k3, _⟩ := hN
    have h := nbytesInner_any a.1 a.2.1 a.2.2.1 a.2.2.2 b.1 b.2.1 b.2.2.1 b.2.2.2 (wf_nat h1) (wf_nat k1) h2 h3 k2 k3 w
    have e : D.innerO a.1 a.2.1 a.2.2.1 a.2.2.2 b.1 b.2.1 b.2.2.1 b.2.2.2 = (D.Nd.inner a b).out := by
      unfold D.innerO D.Nd.out D.Nd.err D.Nd.text D.innerW D.wItem
      simp only [Int.toNat_natCast]
      rfl
    rw [e] at h
    exact h
theorem rd_ok {s : List UInt8} (h : D.rdErr s = 0) : (D.rnode s).1.err = 0 ∧ D.rdVal s = (D.rnode s).1.cells ∧ (D.rnode s).1.out = s := by
  have hV : D.rdVal s = if D.rdErr s = 0 then (D.rnode s).1.cells else .nilIface := rfl
  have hE : D.rdErr s = if D.done s (D.rnode s).2 = 0 then (D.rnode s).1.err else (D.done s (D.rnode s).2 : Nat) := rfl
  rw [if_pos h] at hV
  by_cases hd : D.done s (D.rnode s).2 = 0
  · rw [if_pos hd] at hE
    have he : (D.rnode s).1.err = 0 := by rw [← hE]; exact h
    refine ⟨he, hV, ?_⟩
    unfold D.Nd.out
    rw [if_pos he]
    exact (D.rnode_inv hd).symm
  · rw [if_neg hd] at hE
    omega
set_option maxRecDepth 100000 in
set_option maxHeartbeats 1000000 in
theorem none_walk (s : List UInt8) (w : World) :
    Calls Try.prog 15 #[.string ⟨s.toArray⟩] w fun e w' => e = .returned (.bool true) ∧ Below w.heap.size w w' := by
  have hz : (⟨s.toArray⟩ : ByteArray).size = s.length := by simp [ByteArray.size]
  have AA := Lib.hid (fun W => nawake_any W)
  by_cases hs : 400 < s.length
  · have d1 : decide ((400 : Int) < ((⟨s.toArray⟩ : ByteArray).size : Int)) = true := by rw [hz]; simp; omega
    have d2 : decide (400 < (⟨s.toArray⟩ : ByteArray).size) = true := by rw [hz]; simp; omega
    clear hz
    generalize (⟨s.toArray⟩ : ByteArray) = S at *
    go_enter Try.func15, Try.ntmps15
    go_wp2_with (go_at_call 47; (with_reducible refine (AA.out _).mono ?_); rintro e w1 ⟨rfl, hb1⟩)
    go_ret
    exact ⟨rfl, hb1⟩
  · have d1 : decide ((400 : Int) < ((⟨s.toArray⟩ : ByteArray).size : Int)) = false := by rw [hz]; simp; omega
    have d2 : decide (400 < (⟨s.toArray⟩ : ByteArray).size) = false := by rw [hz]; simp; omega
    have RD := Lib.hid (fun W => nodeRead_any s (by omega) W)
    clear hz
    by_cases hE : D.rdErr s = 0
    · obtain ⟨h0, hV, hO⟩ := rd_ok hE
      have BY := Lib.hid (fun W => nbytesNd_any (D.rnode s).1 (D.rnode_ok s) W)
      rw [h0, hO] at BY
      rw [hE, hV] at RD
      have hself : (s == s) = true := beq_self_eq_true s
      clear hE h0 hV hO
      generalize (D.rnode s).1.cells = V at *
      go_enter Try.func15, Try.ntmps15
      go_wp2_with (first | (go_at_call 47; (with_reducible refine (AA.out _).mono ?_); rintro e w1 ⟨rfl, h1⟩; replace hb := hb.trans (h1.mono hb.size)) | (go_at_call 54; (with_reducible refine (RD.out _).mono ?_); rintro e w1 ⟨rfl, hb⟩) | (go_at_call 44; (with_reducible refine (BY.out _).mono ?_); rintro e w1 ⟨rfl, h1⟩; replace hb := hb.trans (h1.mono hb.size)))
      go_ret
      exact ⟨rfl, hb⟩
    · have d3 : (D.rdErr s == 0) = false := by rw [beq_eq_false_iff_ne]; exact hE
      generalize D.rdErr s = E at *
      generalize D.rdVal s = V at *
      generalize (⟨s.toArray⟩ : ByteArray) = S at *
      go_enter Try.func15, Try.ntmps15
      go_wp2_with (first | (go_at_call 47; (with_reducible refine (AA.out _).mono ?_); rintro e w1 ⟨rfl, h1⟩; replace hb := hb.trans (h1.mono hb.size)) | (go_at_call 54; (with_reducible refine (RD.out _).mono ?_); rintro e w1 ⟨rfl, hb⟩))
      go_ret
      exact ⟨rfl, hb⟩
set_option maxRecDepth 1000000 in
theorem none_law : LawHolds 15 Try.f15 := by
  intro H enc W base args ds p hval hA
  rw [Try.params15] at hA hval
  obtain ⟨v0, vs0, d0, ds0, p0, q0, hargs, rfl, rfl, k0, r0⟩ := trodAll_cons hA
  obtain ⟨rfl, rfl, rfl⟩ := trodAll_nil r0
  obtain rfl : args = #[v0] := by cases args; simp_all
  obtain ⟨l, rfl, _⟩ := open_textN (hval 0 9 v0 rfl rfl) k0
  exact none_walk l W

theorem none_lifted (os : Os) (started : os.Started) (H : Type) (enc : TypeId × Value → H) :
    ReturnsInHanded {} Try.checked os 15 .any (Rows.nodeOneSpec.pre6 enc Try.prog Try.f15 Rows.nodeOneRow.domain false) (Rows.nodeOneSpec.post enc Try.prog Try.f15 false true false false) :=
  lifted_of started (by kernel_rfl) Try.func15
    (ChangeSpec.witness6 (enc := enc) (C := Try.checked) false ⟨#[], #[.string ⟨#[]⟩], []⟩ 8 (by kernel_rfl) (by kernel_rfl) (by kernel_rfl) (by kernel_rfl))
    rfl (by kernel_rfl) (fun ds h => by rw [Try.params15] at h; match ds, h with | [_], _ => rfl) (by rw [Try.params15]; exact of_decide_eq_true (by kernel_rfl)) none_law
theorem none_over : Rows.nodeOneRow.holds Try.pinned (OpenSpec.ofChange Rows.nodeOneSpec) :=
  OpenClaim.holds_of_wide 15 Try.f15 rfl rfl rfl rfl rfl rfl rfl ⟨rfl, rfl, rfl, rfl, rfl⟩ rfl rfl rfl rfl rfl (by kernel_rfl) Try.func15 (by kernel_rfl)
    (of_decide_eq_true (by kernel_rfl)) (by unfold Func.isWrapper; first | (rw [if_pos (by decide +kernel)]; kernel_rfl) | (rw [if_neg (by decide +kernel)]; exact ⟨rfl, rfl⟩))
    (fun os started H enc _ => none_lifted os started H enc)
/-- The statement. -/
theorem none_proved : Rows.NodeOneSaid := none_over
#print axioms none_proved
end Go.Proofs.Ytgjmnhbkdccgpaa
