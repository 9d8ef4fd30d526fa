/- NameTwice: folded twice is folded once, and an identity's parts are identities. No condition. -/
import Derived.Test.YtpinackeelncfaaNameAwake
import Derived.Test.YtpinackeelncfaaPureTwice
import Derived.Test.YtpinackeelncfaaCut
namespace Go.Proofs.Ytpinackeelncfaa
open Go.ChangeShapes Go.WideShapes Go.ChangeAt Go.RowKit

namespace N
theorem partsGo_len (s : List UInt8) : ∀ (l : List (Nat × Nat × Nat)) (fr : Nat), (partsGo s l fr).length ≤ l.length + 1
  | [], fr => by simp [partsGo]
  | x :: t, fr => by
    have h1 := partsGo_len s t fr
    have h2 := partsGo_len s t (x.2.1 + 1)
    rw [partsGo]
    split <;> simp <;> omega
theorem parts_len (s : List UInt8) : 0 < (parts s).length ∧ (parts s).length ≤ s.length + 1 := by
  have h1 := partsGo_len s (runes s) 0
  have h2 := runes_len s
  refine ⟨?_, Nat.le_trans h1 (by omega)⟩
  have : ∀ (l : List (Nat × Nat × Nat)) (fr : Nat), 0 < (partsGo s l fr).length := by
    intro l
    induction l with
    | nil => intro fr; simp [partsGo]
    | cons x t ih =>
      intro fr
      rw [partsGo]
      split
      · simp
      · exact ih _
  exact this _ _
end N
set_option maxRecDepth 100000 in
set_option maxHeartbeats 2000000 in
theorem twice_walk (s0 : List UInt8) (w : World) :
    Calls Try.prog 6 #[.string ⟨s0.toArray⟩] w fun e w' => e = .returned (.bool true) ∧ Below w.heap.size w w' := by
  have h0 := lcut_any s0 300
  rw [show ((300 : Nat) : Int) = 300 from rfl] at h0
  have hs : (s0.take 300).length ≤ 300 := by rw [List.length_take]; omega
  generalize s0.take 300 = s at h0 hs
  have H0 := Lib.hid h0
  have FS := Lib.hid (fun W => fold_any s W (by omega))
  have hfl := N.fold_len s
  have FF := Lib.hid (fun W => fold_any (N.fold s) W (by omega))
  rw [N.fold_fold] at FF
  have RF := Lib.hid (fun W => runes_any (N.fold s) W (by omega))
  rw [N.fold_runes] at RF
  have RS := Lib.hid (fun W => runes_any s W (by omega))
  have CS := Lib.hid (fun W => check_any s W (by omega))
  have hrl := N.runes_len s
  clear h0
  by_cases c1 : (N.check s).2 = 0
  · have hfi := N.fold_ident s c1
    have hid := N.ident_len s c1
    rw [hfi] at FS
    rw [c1] at CS
    rw [show ((0 : Nat) : Int) = 0 from rfl] at CS
    have H1 := Lib.hid (fun W => parts_any s W (by omega))
    have hL := N.parts_len s
    have hpi := N.parts_ident s c1
    have hpl : ∀ t ∈ N.parts s, t.length ≤ s.length := N.parts_lens s (N.runes s) 0
    have d9 : decide ((((N.runes s).length : Nat) : Int) ≤ 40) = true := by simp; omega
    have dr : ((((N.runes s).length : Nat) : Int) != (((N.runes s).length : Nat) : Int)) = false := by simp
    clear FF RF
    generalize (N.check s).1 = ea at *
    generalize (N.runes s).length = rl at *
    generalize N.parts s = L at *
    clear c1 hfi hid
    generalize (⟨s.toArray⟩ : ByteArray) = S at *
    have hB : Below w.heap.size w w := Below.refl _ _
    go_enter Try.func6, Try.ntmps6
    go_wp2_with (first | (go_at_call 8; with_reducible refine (H0.out _).mono ?_; rintro e w0 ⟨rfl, rfl⟩) | (go_at_call 17; with_reducible refine (FS.out _).mono ?_; rintro e w1 ⟨rfl, hb1⟩; replace hB := hB.trans (hb1.mono hB.size); clear hb1) | (go_at_call 14; with_reducible refine (RS.out _).mono ?_; rintro e w1 ⟨rfl, hb1⟩; replace hB := hB.trans (hb1.mono hB.size); clear hb1) | (go_at_call 9; with_reducible refine (CS.out _).mono ?_; rintro e w1 ⟨rfl, hb1⟩; replace hB := hB.trans (hb1.mono hB.size); clear hb1) | (go_at_call 15; with_reducible refine (H1.out _).mono ?_; rintro e w6 ⟨v, rfl, hrow, hb6⟩; obtain ⟨g, cap, rfl, hcap⟩ := hrow.form_len (List.length_map ..) hL.1))
    replace hB := hB.trans (hb6.mono hB.size)
    clear hb6 CS FS H0 H1
    obtain ⟨n, hn⟩ : ∃ n, n = L.length := ⟨_, rfl⟩
    rw [← hn] at hcap hL hrow ⊢
    have Hn := Lib.hid hn
    clear hn
    have CT : ∀ t ∈ L, Hid (∀ W : World, Calls Try.prog 9 #[.string ⟨t.toArray⟩] W fun e w' => e = .returned (.tuple #[.int .i64 ((N.check t).1 : Int), .int .i64 0]) ∧ Below W.heap.size W w') := fun t ht => Lib.hid fun W => by
      have := check_any t W (by have := hpl t ht; omega)
      rw [hpi t ht] at this
      exact this
    clear hpi hpl
    go_loopw [36] (fun i wr => ∃ k : Nat, i = .int .i64 (k : Int) ∧ k ≤ n ∧ Row1 wr 9 (.slice (some ⟨g, 0, none⟩) n cap) (L.map strV) ∧ Below w.heap.size w wr) (fun i _ => n - (intOf i).toNat)
    case atStart => exact ⟨0, rfl, by omega, hrow, hB⟩
    case round =>
      clear hrow hB
      obtain ⟨k, rfl, hk, hrow, hB⟩ := hrel
      have k0 : (0 : Int) ≤ (k : Int) := by omega
      have kb : (k : Int) ≤ 301 := by omega
      by_cases hlt : k < n
      · have hkl : k < L.length := by have := Hn.out; omega
        have d1 : decide ((k : Int) < (n : Int)) = true := by simp; omega
        have d1' : decide (k < n) = true := by simpa using hlt
        have kc : wr.cell? ⟨g, k, none⟩ = some (.string ⟨(L.getD k []).toArray⟩) := hrow.cell rfl k _ (by rw [List.getElem?_map, List.getElem?_eq_getElem hkl, List.getD_eq_getElem?_getD, List.getElem?_eq_getElem hkl]; rfl)
        have CK := CT (L.getD k []) (by rw [List.getD_eq_getElem?_getD, List.getElem?_eq_getElem hkl]; exact List.getElem_mem hkl)
        clear CT
        generalize (N.check (L.getD k [])).1 = ck at *
        generalize (⟨(L.getD k []).toArray⟩ : ByteArray) = T at *
        have kn : (k : Int) < (n : Int) := by omega
        go_wp2_with (go_at_call 9; with_reducible refine (CK.out _).mono ?_; rintro e w5 ⟨rfl, hb5⟩)
        go_roundw
        case rel => exact ⟨k + 1, by go_num, by omega, hrow.at_ hb5, hB.trans (hb5.mono hB.size)⟩
        case measure => simp [intOf]; omega
      · obtain rfl : k = n := by omega
        have d1 : decide ((k : Int) < (k : Int)) = false := by simp
        have d1' : decide (k < k) = false := by simp
        go_wp2_with (first | (go_at_call 11; with_reducible refine (nawake_any _).mono ?_; rintro e w1 ⟨rfl, hb1⟩; replace hB := hB.trans (hb1.mono hB.size); clear hb1) | (go_at_call 14; with_reducible refine (RS.out _).mono ?_; rintro e w1 ⟨rfl, hb1⟩; replace hB := hB.trans (hb1.mono hB.size); clear hb1))
        go_ret
        exact ⟨rfl, hB⟩
  · have d1 : ((((N.check s).2 : Nat) : Int) != 0) = true := by rw [bne_iff_ne]; omega
    generalize (N.check s).2 = eb at *
    generalize (N.check s).1 = ea at *
    generalize (N.runes s).length = rl at *
    generalize (⟨(N.fold s).toArray⟩ : ByteArray) = F at *
    generalize (⟨s.toArray⟩ : ByteArray) = S at *
    clear c1 hfl
    go_enter Try.func6, Try.ntmps6
    go_wp2_with (first | (go_at_call 8; with_reducible refine (H0.out _).mono ?_; rintro e w0 ⟨rfl, rfl⟩) | (go_at_call 17; with_reducible refine (FS.out _).mono ?_; rintro e w1 ⟨rfl, hb1⟩) | (go_at_call 17; with_reducible refine (FF.out _).mono ?_; rintro e w2 ⟨rfl, hb2⟩) | (go_at_call 14; with_reducible refine (RF.out _).mono ?_; rintro e w3 ⟨rfl, hb3⟩) | (go_at_call 14; with_reducible refine (RS.out _).mono ?_; rintro e w4 ⟨rfl, hb4⟩) | (go_at_call 9; with_reducible refine (CS.out _).mono ?_; rintro e w5 ⟨rfl, hb5⟩) | (go_at_call 11; with_reducible refine (nawake_any _).mono ?_; rintro e w6 ⟨rfl, hb6⟩))
    go_ret
    have k2 := hb1.trans (hb2.mono hb1.size)
    have k3 := k2.trans (hb3.mono k2.size)
    have k4 := k3.trans (hb4.mono k3.size)
    have k5 := k4.trans (hb5.mono k4.size)
    exact ⟨rfl, k5.trans (hb6.mono k5.size)⟩
set_option maxRecDepth 1000000 in
theorem twice_law : LawHolds 6 Try.f6 := by
  intro H enc W base args ds p hval hA
  rw [Try.params6] at hA hval
  obtain ⟨v0, vs0, d0, ds0, p0, q0, hargs, rfl, rfl, k0, r0⟩ := trodAll_cons hA
  obtain ⟨rfl, rfl, rfl⟩ := trodAll_nil r0
  obtain rfl : args = #[v0] := by cases args; simp_all
  obtain ⟨l, rfl, _⟩ := open_text (hval 0 9 v0 rfl rfl) k0
  exact twice_walk l W

theorem twice_lifted (os : Os) (started : os.Started) (H : Type) (enc : TypeId × Value → H) :
    ReturnsInHanded {} Try.checked os 6 .any (Rows.nameTwiceSpec.pre6 enc Try.prog Try.f6 Rows.nameTwiceRow.domain false) (Rows.nameTwiceSpec.post enc Try.prog Try.f6 false true false false) :=
  lifted_of started (by kernel_rfl) Try.func6
    (ChangeSpec.witness6 (enc := enc) (C := Try.checked) false ⟨#[], #[.string ⟨#[]⟩], []⟩ 8 (by kernel_rfl) (by kernel_rfl) (by kernel_rfl) (by kernel_rfl))
    rfl (by kernel_rfl) (fun ds h => by rw [Try.params6] at h; match ds, h with | [_], _ => rfl) (by rw [Try.params6]; exact of_decide_eq_true (by kernel_rfl)) twice_law
theorem twice_over : Rows.nameTwiceRow.holds Try.pinned (OpenSpec.ofChange Rows.nameTwiceSpec) :=
  OpenClaim.holds_of_wide 6 Try.f6 rfl rfl rfl rfl rfl rfl rfl ⟨rfl, rfl, rfl, rfl, rfl⟩ rfl rfl rfl rfl rfl (by kernel_rfl) Try.func6 (by kernel_rfl)
    (of_decide_eq_true (by kernel_rfl)) (by unfold Func.isWrapper; first | (rw [if_pos (by decide +kernel)]; kernel_rfl) | (rw [if_neg (by decide +kernel)]; exact ⟨rfl, rfl⟩))
    (fun os started H enc _ => twice_lifted os started H enc)
/-- The statement. -/
theorem twice_proved : Rows.NameTwiceSaid := twice_over
#print axioms twice_proved
end Go.Proofs.Ytpinackeelncfaa
