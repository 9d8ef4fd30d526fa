/- NameParts: the parts of a text with its joints are the text. No condition. -/
import Derived.Test.YtpinackeelncfaaNameAwake
import Derived.Test.YtpinackeelncfaaPureParts
import Derived.Test.YtpinackeelncfaaCut
namespace Go.Proofs.Ytpinackeelncfaa
open Go.ChangeShapes Go.WideShapes Go.ChangeAt Go.RowKit

namespace N
theorem cov_last {s : List UInt8} {a : Nat} {t : List UInt8} (h : Cov s a [t]) : a + t.length = s.length ∧ (s.drop a).take t.length = t := by
  obtain ⟨h1, rfl⟩ := h
  exact ⟨by rw [List.length_drop]; omega, by rw [List.take_length]⟩
theorem cov_len (s : List UInt8) : ∀ (l : List (List UInt8)) (a : Nat), Cov s a l → l.length + a ≤ s.length + 1
  | [], _, h => h.elim
  | [t], a, h => by have := h.1; simp; omega
  | t :: u :: r, a, h => by have := cov_len s (u :: r) _ h.2.2.2; simp at *; omega
end N
set_option maxRecDepth 100000 in
set_option maxHeartbeats 2000000 in
theorem parts_walk (s0 : List UInt8) (w : World) :
    Calls Try.prog 7 #[.string ⟨s0.toArray⟩] w fun e w' => e = .returned (.bool true) ∧ Below w.heap.size w w' := by
  have h0 := lcut_any s0 300
  rw [show ((300 : Nat) : Int) = 300 from rfl] at h0
  have hs : (s0.take 300).length ≤ 300 := by rw [List.length_take]; omega
  generalize s0.take 300 = s at h0 hs
  have H0 := Lib.hid h0
  have H1 := Lib.hid (fun W => parts_any s W (by omega))
  have hcov := N.parts_cov s
  have hz := str_size s
  have hLn := N.cov_len s _ _ hcov
  clear h0
  generalize N.parts s = L at *
  have hL0 : 0 < L.length := by
    match L, hcov with
    | t :: r, _ => simp
  go_enter Try.func7, Try.ntmps7
  go_wp2_with (first | (go_at_call 8; with_reducible refine (H0.out _).mono ?_; rintro e w1 ⟨rfl, rfl⟩) | (go_at_call 15; with_reducible refine (H1.out _).mono ?_; rintro e w1 ⟨v, rfl, hrow, hb1⟩; obtain ⟨g, cap, rfl, hcap⟩ := hrow.form_len (List.length_map ..) hL0))
  obtain ⟨n, hn⟩ : ∃ n, n = L.length := ⟨_, rfl⟩
  rw [← hn] at hcap hL0 hLn hrow ⊢
  have Hn := Lib.hid hn
  clear hn H0 H1
  go_loopw [4, 5, 14] (fun a b i wr => ∃ k at_ c : Nat, a = .int .i64 (at_ : Int) ∧ b = .int .i64 (c : Int) ∧ i = .int .i64 (k : Int) ∧ Row1 wr 9 (.slice (some ⟨g, 0, none⟩) n cap) (L.map strV) ∧ Below w.heap.size w wr ∧ ((k < n ∧ c = k ∧ N.Cov s at_ (L.drop k)) ∨ (k = n ∧ at_ = s.length ∧ c + 1 = n))) (fun _ _ i _ => n - (intOf i).toNat)
  case atStart => exact ⟨0, 0, 0, rfl, rfl, rfl, hrow, hb1, .inl ⟨hL0, rfl, hcov⟩⟩
  case round =>
    clear hrow hb1 hcov
    obtain ⟨k, a, c, rfl, rfl, rfl, hrow, hB, hcase⟩ := hrel
    rcases hcase with ⟨hk, rfl, hcov⟩ | ⟨rfl, rfl, hc⟩
    · have hkl : c < L.length := by have := Hn.out; omega
      have d1 : decide ((c : Int) < (n : Int)) = true := by simp; omega
      have d1' : decide (c < n) = true := by simpa using hk
      have kc : wr.cell? ⟨g, c, none⟩ = some (.string ⟨(L.getD c []).toArray⟩) := hrow.cell rfl c _ (by rw [List.getElem?_map, List.getElem?_eq_getElem hkl, List.getD_eq_getElem?_getD, List.getElem?_eq_getElem hkl]; rfl)
      rw [List.drop_eq_getElem_cons hkl, show L[c] = L.getD c [] by rw [List.getD_eq_getElem?_getD, List.getElem?_eq_getElem hkl]; rfl] at hcov
      generalize L.getD c [] = t at *
      have ht := str_size t
      have c0 : (0 : Int) ≤ (c : Int) := by omega
      have cb : (c : Int) ≤ 301 := by omega
      have ci : (c : Int) < (n : Int) := by omega
      by_cases hk1 : c + 1 < n
      · have hk1l : c + 1 < L.length := by have := Hn.out; omega
        obtain ⟨u, r, hur⟩ : ∃ u r, L.drop (c + 1) = u :: r := ⟨_, _, List.drop_eq_getElem_cons hk1l⟩
        rw [hur] at hcov
        obtain ⟨b1, b2, b3, b4⟩ := hcov
        rw [← hur] at b4
        have hmid := str_mid_ s a (a + t.length) (a : Int) ((a : Int) + ((⟨t.toArray⟩ : ByteArray).size : Int)) rfl (by rw [ht]; simp) (by omega) (by omega)
        rw [show a + t.length - a = t.length by omega, ← b2] at hmid
        have hix := str_index_ s (a + t.length) ((a : Int) + ((⟨t.toArray⟩ : ByteArray).size : Int)) (by rw [ht]; simp) b1
        have KC := Lib.hid (fun W => kind_any ((s.getD (a + t.length) 0).toNat : Int) W)
        rw [b3, show ((3 : Nat) : Int) = 3 from rfl] at KC
        have hb256 := (s.getD (a + t.length) 0).toNat_lt
        have B4 := Lib.hid b4
        have Hat := Lib.hid (show ((a : Int) + ((⟨t.toArray⟩ : ByteArray).size : Int)) + 1 = ((a + t.length + 1 : Nat) : Int) by rw [ht]; simp)
        have d2 : decide (((⟨s.toArray⟩ : ByteArray).size : Int) < (a : Int) + ((⟨t.toArray⟩ : ByteArray).size : Int)) = false := by rw [ht, hz]; simp; omega
        have d3 : decide (((⟨s.toArray⟩ : ByteArray).size : Int) ≤ (a : Int) + ((⟨t.toArray⟩ : ByteArray).size : Int)) = false := by rw [ht, hz]; simp; omega
        have d4 : decide ((c : Int) + 1 < (n : Int)) = true := by simp; omega
        have d4' : decide (c + 1 < n) = true := by simpa using hk1
        have a0 : (0 : Int) ≤ (a : Int) := by omega
        have ab : (a : Int) ≤ 300 := by omega
        have t0 : (0 : Int) ≤ ((⟨t.toArray⟩ : ByteArray).size : Int) := Int.natCast_nonneg _
        have tb : ((⟨t.toArray⟩ : ByteArray).size : Int) ≤ 300 := by rw [ht]; omega
        have hb256' : ((s.getD (a + t.length) 0).toNat : Int) < 256 := by omega
        have hb0' : (0 : Int) ≤ ((s.getD (a + t.length) 0).toNat : Int) := by omega
        generalize (s.getD (a + t.length) 0).toNat = b at *
        generalize (⟨t.toArray⟩ : ByteArray) = TT at *
        generalize (⟨s.toArray⟩ : ByteArray) = SS at *
        clear b1 b2 b3 b4 ht hz hur
        go_wp2_with (go_at_call 12; with_reducible refine (KC.out _).mono ?_; rintro e w5 ⟨rfl, hb5⟩)
        go_roundw
        case rel => exact ⟨c + 1, a + t.length + 1, c + 1, by rw [← Hat.out], by go_num, by go_num, hrow.at_ hb5, hB.trans (hb5.mono hB.size), .inl ⟨hk1, rfl, B4.out⟩⟩
        case measure => simp [intOf]; omega
      · obtain rfl : n = c + 1 := by omega
        rw [List.drop_eq_nil_of_le (by have := Hn.out; omega)] at hcov
        obtain ⟨b1, b2⟩ := N.cov_last hcov
        have hmid := str_mid_ s a (a + t.length) (a : Int) ((a : Int) + ((⟨t.toArray⟩ : ByteArray).size : Int)) rfl (by rw [ht]; simp) (by omega) (by omega)
        rw [show a + t.length - a = t.length by omega, b2] at hmid
        have Hat := Lib.hid (show ((a : Int) + ((⟨t.toArray⟩ : ByteArray).size : Int)) = (s.length : Int) by rw [ht]; omega)
        have d2 : decide (((⟨s.toArray⟩ : ByteArray).size : Int) < (a : Int) + ((⟨t.toArray⟩ : ByteArray).size : Int)) = false := by rw [ht, hz]; simp; omega
        have d4 : decide ((c : Int) + 1 < ((c + 1 : Nat) : Int)) = false := by simp
        have a0 : (0 : Int) ≤ (a : Int) := by omega
        have ab : (a : Int) ≤ 300 := by omega
        have t0 : (0 : Int) ≤ ((⟨t.toArray⟩ : ByteArray).size : Int) := Int.natCast_nonneg _
        have tb : ((⟨t.toArray⟩ : ByteArray).size : Int) ≤ 300 := by rw [ht]; omega
        generalize (⟨t.toArray⟩ : ByteArray) = TT at *
        generalize (⟨s.toArray⟩ : ByteArray) = SS at *
        clear b1 b2 hcov ht hz
        go_wp2
        go_roundw
        case rel => exact ⟨c + 1, s.length, c, by rw [← Hat.out], rfl, by go_num, hrow, hB, .inr ⟨rfl, rfl, rfl⟩⟩
        case measure => simp [intOf]
    · have d1 : decide ((k : Int) < (k : Int)) = false := by simp
      have d5 : (((s.length : Nat) : Int) == ((⟨s.toArray⟩ : ByteArray).size : Int)) = true := by rw [hz]; simp
      have d6 : (((c : Nat) : Int) == (k : Int) - 1) = true := by simp; omega
      have kb : (k : Int) ≤ 301 := by omega
      generalize (⟨s.toArray⟩ : ByteArray) = SS at *
      clear hz
      go_wp2_with (go_at_call 11; with_reducible refine (nawake_any _).mono ?_; rintro e w5 ⟨rfl, hb5⟩)
      go_ret
      exact ⟨rfl, hB.trans (hb5.mono hB.size)⟩
set_option maxRecDepth 1000000 in
theorem parts_law : LawHolds 7 Try.f7 := by
  intro H enc W base args ds p hval hA
  rw [Try.params7] at hA hval
  obtain ⟨v0, vs0, d0, ds0, p0, q0, hargs, rfl, rfl, k0, r0⟩ := trodAll_cons hA
  obtain ⟨rfl, rfl, rfl⟩ := trodAll_nil r0
  obtain rfl : args = #[v0] := by cases args; simp_all
  obtain ⟨l, rfl, _⟩ := open_text (hval 0 9 v0 rfl rfl) k0
  exact parts_walk l W

theorem parts_lifted (os : Os) (started : os.Started) (H : Type) (enc : TypeId × Value → H) :
    ReturnsInHanded {} Try.checked os 7 .any (Rows.namePartsSpec.pre6 enc Try.prog Try.f7 Rows.namePartsRow.domain false) (Rows.namePartsSpec.post enc Try.prog Try.f7 false true false false) :=
  lifted_of started (by kernel_rfl) Try.func7
    (ChangeSpec.witness6 (enc := enc) (C := Try.checked) false ⟨#[], #[.string ⟨#[]⟩], []⟩ 8 (by kernel_rfl) (by kernel_rfl) (by kernel_rfl) (by kernel_rfl))
    rfl (by kernel_rfl) (fun ds h => by rw [Try.params7] at h; match ds, h with | [_], _ => rfl) (by rw [Try.params7]; exact of_decide_eq_true (by kernel_rfl)) parts_law
theorem parts_over : Rows.namePartsRow.holds Try.pinned (OpenSpec.ofChange Rows.namePartsSpec) :=
  OpenClaim.holds_of_wide 7 Try.f7 rfl rfl rfl rfl rfl rfl rfl ⟨rfl, rfl, rfl, rfl, rfl⟩ rfl rfl rfl rfl rfl (by kernel_rfl) Try.func7 (by kernel_rfl)
    (of_decide_eq_true (by kernel_rfl)) (by unfold Func.isWrapper; first | (rw [if_pos (by decide +kernel)]; kernel_rfl) | (rw [if_neg (by decide +kernel)]; exact ⟨rfl, rfl⟩))
    (fun os started H enc _ => parts_lifted os started H enc)
/-- The statement. -/
theorem parts_proved : Rows.NamePartsSaid := parts_over
#print axioms parts_proved
end Go.Proofs.Ytpinackeelncfaa
