/- The walk of code.Reader.Number. -/
import Derived.Test.YtgjmnhbkdccgpaaWTake
namespace Go.Proofs.Ytgjmnhbkdccgpaa
open Go.RowKit

theorem Only.grown {g : Nat} {w w' : World} (h : Only g w w') : w.grownBy w' (some g) := ⟨h.os, h.tape, h.output, by rw [h.size]; exact Nat.le_refl _, fun i _ hne => h.block i (fun e => hne (by rw [e]))⟩
theorem below_grows {w w' : World} {row : Option Nat} (h : Below w.heap.size w w') : w.grownBy w' row := ⟨h.os, h.tape, h.output, h.size, fun i hi _ => h.block i hi⟩
theorem grown_then {a b c : World} {row : Option Nat} (h : a.grownBy b row) (k : b.grownBy c row) : a.grownBy c row :=
  ⟨k.os.trans h.os, k.tape.trans h.tape, k.output.trans h.output, Nat.le_trans h.size k.size, fun i hi hne => (k.block i (Nat.lt_of_lt_of_le hi h.size) hne).trans (h.block i hi hne)⟩
theorem grown_only {a b c : World} {row : Option Nat} {j : Nat} (h : a.grownBy b row) (o : Only j b c) (hj : a.heap.size ≤ j) : a.grownBy c row :=
  ⟨o.os.trans h.os, o.tape.trans h.tape, o.output.trans h.output, by rw [o.size]; exact h.size, fun i hi hne => (o.block i (by omega)).trans (h.block i hi hne)⟩
theorem Rst.only {w w' : World} {g j : Nat} {s : List UInt8} {r : D.Rd} (h : Rst w g s r) (o : Only j w w') (hj : g ≠ j) : Rst w' g s r := ⟨h.blk.only o hj, h.loc⟩
theorem Rst.below {w w' : World} {g : Nat} {s : List UInt8} {r : D.Rd} (h : Rst w g s r) (hb : Below w.heap.size w w') : Rst w' g s r := ⟨h.blk.at_ hb, h.loc⟩
theorem i64_shl8 (n : Nat) (h : n < 36028797018963968) (c : UInt8) : bits .or .i64 ((n : Int) * 256) (c.toNat : Int) = ((n * 256 + c.toNat : Nat) : Int) := by
  have hc := c.toNat_lt
  have h1 := i64_or_nat (n * 256) c.toNat (by omega) (by omega)
  rw [show ((n * 256 : Nat) : Int) = (n : Int) * 256 from by simp] at h1
  rw [h1]
  congr 1
  have := Nat.two_pow_add_eq_or_of_lt (i := 8) hc n
  rw [Nat.mul_comm] at this
  rw [← this, Nat.mul_comm]
theorem str_index0 (c : UInt8) (l : List UInt8) (w : World) : (Instr.index 9 (.string ⟨(c :: l).toArray⟩) (.int .i64 0)).run Try.prog w = .ok (.int .u8 (c.toNat : Int)) w := by
  exact str_index (c :: l) 0 (by simp) w .i64
set_option maxRecDepth 100000 in
set_option maxHeartbeats 2000000 in
theorem rnumber_any (s : List UInt8) (hs : s.length ≤ 4611686018427387904) (r : D.Rd) (g : Nat) (w : World) (h : Rst w g s r) :
    Calls Try.prog 89 #[.pointer (some ⟨g, 0, none⟩)] w fun e w' => e = .returned (.int .i64 ((D.number s r).1 : Int)) ∧ Rst w' g s (D.number s r).2 ∧ w.grownBy w' (some g) := by
  have h1 := take_any s hs r 1 (by omega) g w h
  rw [show ((1 : Nat) : Int) = 1 from rfl] at h1
  have H1 := Lib.hid h1
  clear h1
  cases hc : (D.take s r 1).1 with
  | nil =>
    have Hres := Lib.hid (D.number_nil hc)
    rw [hc] at H1
    generalize D.number s r = T at Hres
    generalize (D.take s r 1).2 = r1 at H1 Hres
    clear hc h
    go_enter Try.func89, Try.ntmps89
    go_wp2_with (go_at_call 115; with_reducible refine (H1.out).mono ?_; rintro e w1 ⟨rfl, hr1, ho1⟩)
    go_ret
    rw [Hres.out]
    exact ⟨ret_int (by simp), hr1, ho1.grown⟩
  | cons c l =>
    rw [hc] at H1
    have hci : ∀ w, (Instr.index 9 (.string ⟨(c :: l).toArray⟩) (.int .i64 0)).run Try.prog w = .ok (.int .u8 (c.toNat : Int)) w := fun w => by
      exact str_index0 c l w
    have hne : (⟨(c :: l).toArray⟩ : ByteArray).toList.isEmpty = false := by rw [Lib.toList_data]; rfl
    have hcl : (c.toNat : Int) < 256 := by have := c.toNat_lt; omega
    by_cases h8 : 8 < c.toNat
    · have Hres := Lib.hid (D.number_big hc h8)
      generalize D.number s r = T at Hres
      generalize (D.take s r 1).2 = r1 at H1 Hres
      clear hc h
      have d8 : decide ((8 : Int) < (c.toNat : Int)) = true := by simp; omega
      have d8' : decide (8 < c.toNat) = true := by simp; omega
      generalize (⟨(c :: l).toArray⟩ : ByteArray) = S at *
      have h2 := fun w h => rfail_any s r1 4 g w h
      rw [show ((4 : Nat) : Int) = 4 from rfl] at h2
      have H2 := Lib.hid h2
      clear h2
      generalize c.toNat = x at *
      go_enter Try.func89, Try.ntmps89
      go_wp2_with (first | (go_at_call 115; with_reducible refine (H1.out).mono ?_; rintro e w1 ⟨rfl, hr1, ho1⟩) | (go_at_call 116; with_reducible refine (H2.out _ hr1).mono ?_; rintro e w2 ⟨rfl, hr2, ho2⟩))
      go_ret
      rw [Hres.out]
      exact ⟨ret_int (by simp), hr2, (ho1.trans ho2).grown⟩
    · have hbad := fun hb => D.number_bad hc h8 hb
      have hok := fun hb => D.number_ok hc h8 hb
      have hlen := D.take_length s (D.take s r 1).2 c.toNat
      have hk2 := fun w h => take_any s hs (D.take s r 1).2 c.toNat (by omega) g w h
      have d8 : decide ((8 : Int) < (c.toNat : Int)) = false := by simp; omega
      have d8' : decide (8 < c.toNat) = false := by simp; omega
      have h8' : (c.toNat : Int) ≤ 8 := by omega
      generalize D.number s r = T at hbad hok
      generalize (D.take s r 1).2 = r1 at H1 hbad hok hlen hk2
      clear hc h
      generalize (⟨(c :: l).toArray⟩ : ByteArray) = S at *
      generalize c.toNat = x at *
      generalize D.take s r1 x = T2 at hbad hok hlen hk2
      obtain ⟨t, r2⟩ := T2
      simp only at hbad hok hlen hk2
      have H2 := Lib.hid hk2
      clear hk2
      have hH3 := fun w h => rfail_any s r2 4 g w h
      rw [show ((4 : Nat) : Int) = 4 from rfl] at hH3
      have H3 := Lib.hid hH3
      clear hH3
      have htl : (t.length : Int) ≤ 8 := by omega
      cases hb : D.bad x t with
      | true =>
        have Hres := Lib.hid (hbad hb)
        obtain ⟨c0, t', rfl⟩ : ∃ c0 t', t = c0 :: t' := by
          cases t with
          | nil => cases hb
          | cons a b => exact ⟨a, b, rfl⟩
        clear hbad hok
        have hb' : c0.toNat = 0 ∨ (x = 8 ∧ 127 < c0.toNat ∧ c0.toNat ≠ 0) := by
          simp [D.bad] at hb
          rcases hb with h0 | h0
          · exact .inl h0
          · by_cases hz : c0.toNat = 0
            · exact .inl hz
            · exact .inr ⟨h0.1, h0.2, hz⟩
        clear hb
        have hl1 : decide ((0 : Int) < (((c0 :: t').length : Nat) : Int)) = true := by simp
        have hl2 : 0 < (c0 :: t').length := by simp
        have hcy := c0.toNat_lt
        rcases hb' with hy | ⟨hx8, hy, hy0⟩
        · have e1 : ((c0.toNat : Int) == 0) = true := by rw [hy]; rfl
          go_enter Try.func89, Try.ntmps89
          go_wp2_with (first | (go_at_call 115; with_reducible refine (H1.out).mono ?_; rintro e w1 ⟨rfl, hr1, ho1⟩) | (go_at_call 115; with_reducible refine (H2.out _ hr1).mono ?_; rintro e w2 ⟨rfl, hr2, ho2⟩; obtain ⟨W, cap, hconv, hb3, hz3, hcap, hc3⟩ := bytes_law (c0 :: t') w2 36 Try.underlying36; have hc := hc3 0 (by simp); simp only [List.getD_cons_zero] at hc; have Hz := Lib.hid hz3; clear hc3 hz3))
          clear hconv
          have hr3 := hr2.below hb3
          have hg3 := grown_then ((ho1.trans ho2).grown) (below_grows hb3)
          generalize c0.toNat = y at *
          go_loop [24] (fun i => i = .int .i64 0) (fun _ => 0)
          case atStart => rfl
          case round =>
            obtain rfl := hrel
            go_wp2_with (go_at_call 116; with_reducible refine (H3.out _ hr3).mono ?_; rintro e w4 ⟨rfl, hr4, ho4⟩)
            go_ret
            rw [Hres.out]
            exact ⟨ret_int (by simp), hr4, grown_then hg3 ho4.grown⟩
        · subst hx8
          rw [show ((8 : Nat) : Int) = 8 from rfl] at H2
          have e1 : ((c0.toNat : Int) == 0) = false := by simpa using hy0
          have e2 : decide ((127 : Int) < (c0.toNat : Int)) = true := by simp; omega
          go_enter Try.func89, Try.ntmps89
          go_wp2_with (first | (go_at_call 115; with_reducible refine (H1.out).mono ?_; rintro e w1 ⟨rfl, hr1, ho1⟩) | (go_at_call 115; with_reducible refine (H2.out _ hr1).mono ?_; rintro e w2 ⟨rfl, hr2, ho2⟩; obtain ⟨W, cap, hconv, hb3, hz3, hcap, hc3⟩ := bytes_law (c0 :: t') w2 36 Try.underlying36; have hc := hc3 0 (by simp); simp only [List.getD_cons_zero] at hc; have Hz := Lib.hid hz3; clear hc3 hz3))
          clear hconv
          have hr3 := hr2.below hb3
          have hg3 := grown_then ((ho1.trans ho2).grown) (below_grows hb3)
          generalize c0.toNat = y at *
          go_loop [24] (fun i => i = .int .i64 0) (fun _ => 0)
          case atStart => rfl
          case round =>
            obtain rfl := hrel
            go_wp2_with (go_at_call 116; with_reducible refine (H3.out _ hr3).mono ?_; rintro e w4 ⟨rfl, hr4, ho4⟩)
            go_ret
            rw [Hres.out]
            exact ⟨ret_int (by simp), hr4, grown_then hg3 ho4.grown⟩
      | false =>
        have Hres := Lib.hid (hok hb)
        have Hlt := Lib.hid (fun k => D.num_take_lt t x k hlen (by omega) hb)
        clear hbad hok
        have Hsn := Lib.hid (D.num_take_snoc t)
        have H0 := Lib.hid hb
        clear hb
        go_enter Try.func89, Try.ntmps89
        go_wp2_with (first | (go_at_call 115; with_reducible refine (H1.out).mono ?_; rintro e w1 ⟨rfl, hr1, ho1⟩) | (go_at_call 115; with_reducible refine (H2.out _ hr1).mono ?_; rintro e w2 ⟨rfl, hr2, ho2⟩; obtain ⟨W, cap, hconv, hb3, hz3, hcap, hc3⟩ := bytes_law t w2 36 Try.underlying36; have Hc := Lib.hid hc3; have Hz := Lib.hid hz3; clear hc3 hz3))
        clear hconv
        have hr3 := hr2.below hb3
        have hg3 := grown_then ((ho1.trans ho2).grown) (below_grows hb3)
        go_loop [24, 5] (fun i v => ∃ k : Nat, k ≤ t.length ∧ i = .int .i64 (k : Int) ∧ v = .int .i64 ((D.num (t.take k) : Nat) : Int)) (fun i _ => t.length - (intOf i).toNat)
        case atStart => exact ⟨0, by omega, by simp, by simp [D.num]⟩
        case round =>
          obtain ⟨k, hk, rfl, rfl⟩ := hrel
          by_cases hlt : k < t.length
          · have hc := Hc.out k hlt
            have hn := Hlt.out k hlt
            have hsh := i64_shl8 (D.num (t.take k)) hn (t.getD k 0)
            have hsn := Hsn.out k hlt
            have hcb : ((t.getD k 0).toNat : Int) < 256 := by have := (t.getD k 0).toNat_lt; omega
            rw [← hsn] at hsh
            clear hsn
            have hz : k = 0 → (t.getD k 0).toNat ≠ 0 ∧ (x = 8 → (t.getD k 0).toNat ≤ 127) := by
              rintro rfl
              cases t with
              | nil => simp at hlt
              | cons a b => have h0 := H0.out; simp [D.bad] at h0; exact ⟨h0.1, fun e => by simpa using h0.2 e⟩
            generalize hm2 : D.num (t.take (k + 1)) = m2 at hsh
            have Hm2 := Lib.hid hm2
            clear hm2
            generalize (t.getD k 0).toNat = y at *
            generalize D.num (t.take k) = m at *
            by_cases hk0 : k = 0
            · subst hk0
              obtain ⟨z1, z2⟩ := hz rfl
              clear hz
              have e1 : ((y : Int) == 0) = false := by simpa using z1
              by_cases hx8 : x = 8
              · subst hx8
                have z3 := z2 rfl
                clear z2
                go_wp2
                exact ⟨⟨1, by omega, by simp, by rw [Hm2.out]⟩, by simp [intOf]; omega⟩
              · clear z2
                have e2 : ((x : Int) == 8) = false := by simp; omega
                go_wp2
                exact ⟨⟨1, by omega, by simp, by rw [Hm2.out]⟩, by simp [intOf]; omega⟩
            · clear hz
              have e3 : ((k : Int) == 0) = false := by simp; omega
              go_wp2
              exact ⟨⟨k + 1, by omega, by simp, by rw [Hm2.out]⟩, by simp [intOf]; omega⟩
          · obtain rfl : k = t.length := by omega
            go_wp2
            go_ret
            rw [Hres.out]
            exact ⟨rfl, hr3, hg3⟩
end Go.Proofs.Ytgjmnhbkdccgpaa
