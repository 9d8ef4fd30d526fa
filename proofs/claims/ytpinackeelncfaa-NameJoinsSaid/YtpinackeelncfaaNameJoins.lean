/- NameJoins: two identities with a joint between them are one. No condition. -/
import Derived.Test.YtpinackeelncfaaNameAwake
import Derived.Test.YtpinackeelncfaaPureJoins
import Derived.Test.YtpinackeelncfaaCut
namespace Go.Proofs.Ytpinackeelncfaa
open Go.ChangeShapes Go.WideShapes Go.ChangeAt Go.RowKit

theorem ofB_eq (x y : Nat) (h : x = y) : ((x : Int)) = (y : Int) := by rw [h]
set_option maxRecDepth 100000 in
set_option maxHeartbeats 4000000 in
theorem joins_walk (a0 b0 : List UInt8) (j : UInt8) (w : World) :
    Calls Try.prog 4 #[.string ⟨a0.toArray⟩, .string ⟨b0.toArray⟩, .int .u8 (j.toNat : Int)] w fun e w' => e = .returned (.bool true) ∧ Below w.heap.size w w' := by
  have h0 := lcut_any a0 200
  have h00 := lcut_any b0 200
  rw [show ((200 : Nat) : Int) = 200 from rfl] at h0 h00
  have ha : (a0.take 200).length ≤ 200 := by rw [List.length_take]; omega
  have hb : (b0.take 200).length ≤ 200 := by rw [List.length_take]; omega
  generalize a0.take 200 = a at h0 ha
  generalize b0.take 200 = b at h00 hb
  have H0 := Lib.hid h0
  have H00 := Lib.hid h00
  have CA := Lib.hid (fun W => check_any a W (by omega))
  have CB := Lib.hid (fun W => check_any b W (by omega))
  clear h0 h00
  by_cases c1 : (N.check a).2 = 0
  · by_cases c2 : (N.check b).2 = 0
    · by_cases cj : j = 46 ∨ j = 45 ∨ j = 95 ∨ j = 64 ∨ j = 43
      · have hp := N.joins_pure a b j c1 c2 cj
        have RA := Lib.hid (fun W => runes_any a W (by omega))
        have RB := Lib.hid (fun W => runes_any b W (by omega))
        have hla := N.runes_len a
        have hlb := N.runes_len b
        rw [show (N.cds a).length = (N.runes a).length from List.length_map .., show (N.cds b).length = (N.runes b).length from List.length_map ..] at hp
        obtain ⟨p1, p2, p3⟩ := hp
        have s1 := str_add a [j] (by simp; omega)
        have s2 := str_add (a ++ [j]) b (by simp; omega)
        have s3 := str_add a b (by omega)
        have s4 := str_add a [j, j] (by simp; omega)
        have s5 := str_add (a ++ [j, j]) b (by simp; omega)
        have C1 := Lib.hid (fun W => check_any (a ++ [j] ++ b) W (by simp; omega))
        have C2 := Lib.hid (fun W => check_any (a ++ b) W (by simp; omega))
        have C3 := Lib.hid (fun W => check_any (a ++ [j, j] ++ b) W (by simp; omega))
        have v1 : ∀ W : World, (convert 33 9 (.slice (some ⟨W.heap.size, 0, none⟩) 1 1)).run Try.prog (W.alloc (.cells #[.int .u8 (j.toNat : Int)] 5)) = .ok (.string ⟨[j].toArray⟩) (W.alloc (.cells #[.int .u8 (j.toNat : Int)] 5)) := fun W => (buf_build W [j] #[.int .u8 (j.toNat : Int)] 1 rfl rfl (by omega)).string Try.underlying33 Try.underlying9
        have v2 : ∀ W : World, (convert 33 9 (.slice (some ⟨W.heap.size, 0, none⟩) 2 2)).run Try.prog (W.alloc (.cells #[.int .u8 (j.toNat : Int), .int .u8 (j.toNat : Int)] 5)) = .ok (.string ⟨[j, j].toArray⟩) (W.alloc (.cells #[.int .u8 (j.toNat : Int), .int .u8 (j.toNat : Int)] 5)) := fun W => (buf_build W [j, j] #[.int .u8 (j.toNat : Int), .int .u8 (j.toNat : Int)] 2 rfl rfl (by omega)).string Try.underlying33 Try.underlying9
        rw [c1] at CA
        rw [c2] at CB
        generalize N.check (a ++ [j] ++ b) = g at *
        generalize N.check (a ++ b) = h at *
        generalize N.check (a ++ [j, j] ++ b) = i at *
        generalize (N.check a).1 = ea at *
        generalize (N.check b).1 = eb at *
        generalize (N.runes a).length = na at *
        generalize (N.runes b).length = nb at *
        have di : (((i.2 : Nat) : Int) != 0) = true := by rw [bne_iff_ne]; omega
        have na0 : (na : Int) ≤ 200 := by omega
        have nb0 : (nb : Int) ≤ 200 := by omega
        have dg : (((g.2 : Nat) : Int) == 0) = decide ((na : Int) + (nb : Int) < 40) := by
          rw [Bool.eq_iff_iff, beq_iff_eq, decide_eq_true_iff]
          omega
        have dh : (((h.2 : Nat) : Int) == 0) = decide ((na : Int) + (nb : Int) ≤ 40) := by
          rw [Bool.eq_iff_iff, beq_iff_eq, decide_eq_true_iff]
          omega
        rw [show ((0 : Nat) : Int) = 0 from rfl] at CA CB
        generalize g.1 = g1 at *
        generalize g.2 = g2 at *
        generalize h.1 = h1 at *
        generalize h.2 = h2 at *
        generalize i.1 = i1 at *
        generalize i.2 = i2 at *
        have dn : ∀ k : UInt8, j ≠ k → (((j.toNat : Nat) : Int) != (k.toNat : Int)) = true := fun k hk => by
          rw [bne_iff_ne]
          intro e
          exact hk (UInt8.toNat_inj.1 (by omega))
        clear p1 p2 p3 hla hlb c1 c2 ha hb
        generalize (⟨(a ++ [j] ++ b).toArray⟩ : ByteArray) = X1 at *
        generalize (⟨(a ++ [j, j] ++ b).toArray⟩ : ByteArray) = X3 at *
        generalize (⟨(a ++ b).toArray⟩ : ByteArray) = X2 at *
        generalize (⟨(a ++ [j]).toArray⟩ : ByteArray) = Y1 at *
        generalize (⟨(a ++ [j, j]).toArray⟩ : ByteArray) = Y3 at *
        generalize (⟨[j].toArray⟩ : ByteArray) = J1 at *
        generalize (⟨[j, j].toArray⟩ : ByteArray) = J2 at *
        generalize (⟨a.toArray⟩ : ByteArray) = AA at *
        generalize (⟨b.toArray⟩ : ByteArray) = BB at *
        rcases cj with cj | cj | cj | cj | cj
        · have e1 : (((j.toNat : Nat) : Int) != 46) = false := by rw [cj]; rfl
          clear dn cj
          go_enter Try.func4, Try.ntmps4
          go_wp2_with (first | (go_at_call 8; with_reducible refine (H0.out _).mono ?_; rintro e w0 ⟨rfl, rfl⟩) | (go_at_call 8; with_reducible refine (H00.out _).mono ?_; rintro e w0 ⟨rfl, rfl⟩) | (go_at_call 9; with_reducible refine (CA.out _).mono ?_; rintro e w1 ⟨rfl, hb1⟩) | (go_at_call 9; with_reducible refine (CB.out _).mono ?_; rintro e w2 ⟨rfl, hb2⟩) | (go_at_call 14; with_reducible refine (RA.out _).mono ?_; rintro e w3 ⟨rfl, hb3⟩) | (go_at_call 14; with_reducible refine (RB.out _).mono ?_; rintro e w4 ⟨rfl, hb4⟩) | (go_at_call 9; with_reducible refine (C1.out _).mono ?_; rintro e w6 ⟨rfl, hb6⟩) | (go_at_call 9; with_reducible refine (C2.out _).mono ?_; rintro e w7 ⟨rfl, hb7⟩) | (go_at_call 9; with_reducible refine (C3.out _).mono ?_; rintro e w8 ⟨rfl, hb8⟩) | (go_at_call 11; with_reducible refine (nawake_any _).mono ?_; rintro e w9 ⟨rfl, hb9⟩))
          go_ret
          have k2 := hb1.trans (hb2.mono hb1.size)
          have k3 := k2.trans (hb3.mono k2.size)
          have k4 := k3.trans (hb4.mono k3.size)
          have k5 := k4.alloc k4.size (.cells #[.int .u8 (j.toNat : Int)] 5)
          have k6 := k5.trans (hb6.mono k5.size)
          have k7 := k6.trans (hb7.mono k6.size)
          have k8 := k7.alloc k7.size (.cells #[.int .u8 (j.toNat : Int), .int .u8 (j.toNat : Int)] 5)
          have k9 := k8.trans (hb8.mono k8.size)
          exact ⟨rfl, k9.trans (hb9.mono k9.size)⟩
        · have e1 : (((j.toNat : Nat) : Int) != 46) = true := by rw [cj]; rfl
          have e2 : (((j.toNat : Nat) : Int) != 45) = false := by rw [cj]; rfl
          clear dn cj
          go_enter Try.func4, Try.ntmps4
          go_wp2_with (first | (go_at_call 8; with_reducible refine (H0.out _).mono ?_; rintro e w0 ⟨rfl, rfl⟩) | (go_at_call 8; with_reducible refine (H00.out _).mono ?_; rintro e w0 ⟨rfl, rfl⟩) | (go_at_call 9; with_reducible refine (CA.out _).mono ?_; rintro e w1 ⟨rfl, hb1⟩) | (go_at_call 9; with_reducible refine (CB.out _).mono ?_; rintro e w2 ⟨rfl, hb2⟩) | (go_at_call 14; with_reducible refine (RA.out _).mono ?_; rintro e w3 ⟨rfl, hb3⟩) | (go_at_call 14; with_reducible refine (RB.out _).mono ?_; rintro e w4 ⟨rfl, hb4⟩) | (go_at_call 9; with_reducible refine (C1.out _).mono ?_; rintro e w6 ⟨rfl, hb6⟩) | (go_at_call 9; with_reducible refine (C2.out _).mono ?_; rintro e w7 ⟨rfl, hb7⟩) | (go_at_call 9; with_reducible refine (C3.out _).mono ?_; rintro e w8 ⟨rfl, hb8⟩) | (go_at_call 11; with_reducible refine (nawake_any _).mono ?_; rintro e w9 ⟨rfl, hb9⟩))
          go_ret
          have k2 := hb1.trans (hb2.mono hb1.size)
          have k3 := k2.trans (hb3.mono k2.size)
          have k4 := k3.trans (hb4.mono k3.size)
          have k5 := k4.alloc k4.size (.cells #[.int .u8 (j.toNat : Int)] 5)
          have k6 := k5.trans (hb6.mono k5.size)
          have k7 := k6.trans (hb7.mono k6.size)
          have k8 := k7.alloc k7.size (.cells #[.int .u8 (j.toNat : Int), .int .u8 (j.toNat : Int)] 5)
          have k9 := k8.trans (hb8.mono k8.size)
          exact ⟨rfl, k9.trans (hb9.mono k9.size)⟩
        · have e1 : (((j.toNat : Nat) : Int) != 46) = true := by rw [cj]; rfl
          have e2 : (((j.toNat : Nat) : Int) != 45) = true := by rw [cj]; rfl
          have e3 : (((j.toNat : Nat) : Int) != 95) = false := by rw [cj]; rfl
          clear dn cj
          go_enter Try.func4, Try.ntmps4
          go_wp2_with (first | (go_at_call 8; with_reducible refine (H0.out _).mono ?_; rintro e w0 ⟨rfl, rfl⟩) | (go_at_call 8; with_reducible refine (H00.out _).mono ?_; rintro e w0 ⟨rfl, rfl⟩) | (go_at_call 9; with_reducible refine (CA.out _).mono ?_; rintro e w1 ⟨rfl, hb1⟩) | (go_at_call 9; with_reducible refine (CB.out _).mono ?_; rintro e w2 ⟨rfl, hb2⟩) | (go_at_call 14; with_reducible refine (RA.out _).mono ?_; rintro e w3 ⟨rfl, hb3⟩) | (go_at_call 14; with_reducible refine (RB.out _).mono ?_; rintro e w4 ⟨rfl, hb4⟩) | (go_at_call 9; with_reducible refine (C1.out _).mono ?_; rintro e w6 ⟨rfl, hb6⟩) | (go_at_call 9; with_reducible refine (C2.out _).mono ?_; rintro e w7 ⟨rfl, hb7⟩) | (go_at_call 9; with_reducible refine (C3.out _).mono ?_; rintro e w8 ⟨rfl, hb8⟩) | (go_at_call 11; with_reducible refine (nawake_any _).mono ?_; rintro e w9 ⟨rfl, hb9⟩))
          go_ret
          have k2 := hb1.trans (hb2.mono hb1.size)
          have k3 := k2.trans (hb3.mono k2.size)
          have k4 := k3.trans (hb4.mono k3.size)
          have k5 := k4.alloc k4.size (.cells #[.int .u8 (j.toNat : Int)] 5)
          have k6 := k5.trans (hb6.mono k5.size)
          have k7 := k6.trans (hb7.mono k6.size)
          have k8 := k7.alloc k7.size (.cells #[.int .u8 (j.toNat : Int), .int .u8 (j.toNat : Int)] 5)
          have k9 := k8.trans (hb8.mono k8.size)
          exact ⟨rfl, k9.trans (hb9.mono k9.size)⟩
        · have e1 : (((j.toNat : Nat) : Int) != 46) = true := by rw [cj]; rfl
          have e2 : (((j.toNat : Nat) : Int) != 45) = true := by rw [cj]; rfl
          have e3 : (((j.toNat : Nat) : Int) != 95) = true := by rw [cj]; rfl
          have e4 : (((j.toNat : Nat) : Int) != 64) = false := by rw [cj]; rfl
          clear dn cj
          go_enter Try.func4, Try.ntmps4
          go_wp2_with (first | (go_at_call 8; with_reducible refine (H0.out _).mono ?_; rintro e w0 ⟨rfl, rfl⟩) | (go_at_call 8; with_reducible refine (H00.out _).mono ?_; rintro e w0 ⟨rfl, rfl⟩) | (go_at_call 9; with_reducible refine (CA.out _).mono ?_; rintro e w1 ⟨rfl, hb1⟩) | (go_at_call 9; with_reducible refine (CB.out _).mono ?_; rintro e w2 ⟨rfl, hb2⟩) | (go_at_call 14; with_reducible refine (RA.out _).mono ?_; rintro e w3 ⟨rfl, hb3⟩) | (go_at_call 14; with_reducible refine (RB.out _).mono ?_; rintro e w4 ⟨rfl, hb4⟩) | (go_at_call 9; with_reducible refine (C1.out _).mono ?_; rintro e w6 ⟨rfl, hb6⟩) | (go_at_call 9; with_reducible refine (C2.out _).mono ?_; rintro e w7 ⟨rfl, hb7⟩) | (go_at_call 9; with_reducible refine (C3.out _).mono ?_; rintro e w8 ⟨rfl, hb8⟩) | (go_at_call 11; with_reducible refine (nawake_any _).mono ?_; rintro e w9 ⟨rfl, hb9⟩))
          go_ret
          have k2 := hb1.trans (hb2.mono hb1.size)
          have k3 := k2.trans (hb3.mono k2.size)
          have k4 := k3.trans (hb4.mono k3.size)
          have k5 := k4.alloc k4.size (.cells #[.int .u8 (j.toNat : Int)] 5)
          have k6 := k5.trans (hb6.mono k5.size)
          have k7 := k6.trans (hb7.mono k6.size)
          have k8 := k7.alloc k7.size (.cells #[.int .u8 (j.toNat : Int), .int .u8 (j.toNat : Int)] 5)
          have k9 := k8.trans (hb8.mono k8.size)
          exact ⟨rfl, k9.trans (hb9.mono k9.size)⟩
        · have e1 : (((j.toNat : Nat) : Int) != 46) = true := by rw [cj]; rfl
          have e2 : (((j.toNat : Nat) : Int) != 45) = true := by rw [cj]; rfl
          have e3 : (((j.toNat : Nat) : Int) != 95) = true := by rw [cj]; rfl
          have e4 : (((j.toNat : Nat) : Int) != 64) = true := by rw [cj]; rfl
          have e5 : (((j.toNat : Nat) : Int) != 43) = false := by rw [cj]; rfl
          clear dn cj
          go_enter Try.func4, Try.ntmps4
          go_wp2_with (first | (go_at_call 8; with_reducible refine (H0.out _).mono ?_; rintro e w0 ⟨rfl, rfl⟩) | (go_at_call 8; with_reducible refine (H00.out _).mono ?_; rintro e w0 ⟨rfl, rfl⟩) | (go_at_call 9; with_reducible refine (CA.out _).mono ?_; rintro e w1 ⟨rfl, hb1⟩) | (go_at_call 9; with_reducible refine (CB.out _).mono ?_; rintro e w2 ⟨rfl, hb2⟩) | (go_at_call 14; with_reducible refine (RA.out _).mono ?_; rintro e w3 ⟨rfl, hb3⟩) | (go_at_call 14; with_reducible refine (RB.out _).mono ?_; rintro e w4 ⟨rfl, hb4⟩) | (go_at_call 9; with_reducible refine (C1.out _).mono ?_; rintro e w6 ⟨rfl, hb6⟩) | (go_at_call 9; with_reducible refine (C2.out _).mono ?_; rintro e w7 ⟨rfl, hb7⟩) | (go_at_call 9; with_reducible refine (C3.out _).mono ?_; rintro e w8 ⟨rfl, hb8⟩) | (go_at_call 11; with_reducible refine (nawake_any _).mono ?_; rintro e w9 ⟨rfl, hb9⟩))
          go_ret
          have k2 := hb1.trans (hb2.mono hb1.size)
          have k3 := k2.trans (hb3.mono k2.size)
          have k4 := k3.trans (hb4.mono k3.size)
          have k5 := k4.alloc k4.size (.cells #[.int .u8 (j.toNat : Int)] 5)
          have k6 := k5.trans (hb6.mono k5.size)
          have k7 := k6.trans (hb7.mono k6.size)
          have k8 := k7.alloc k7.size (.cells #[.int .u8 (j.toNat : Int), .int .u8 (j.toNat : Int)] 5)
          have k9 := k8.trans (hb8.mono k8.size)
          exact ⟨rfl, k9.trans (hb9.mono k9.size)⟩
      · have dj : ∀ k : UInt8, j ≠ k → (((j.toNat : Nat) : Int) != (k.toNat : Int)) = true := fun k hk => by
          rw [bne_iff_ne]
          intro e
          exact hk (UInt8.toNat_inj.1 (by omega))
        have e1 : (((j.toNat : Nat) : Int) != 46) = true := dj 46 (fun e => cj (.inl e))
        have e2 : (((j.toNat : Nat) : Int) != 45) = true := dj 45 (fun e => cj (.inr (.inl e)))
        have e3 : (((j.toNat : Nat) : Int) != 95) = true := dj 95 (fun e => cj (.inr (.inr (.inl e))))
        have e4 : (((j.toNat : Nat) : Int) != 64) = true := dj 64 (fun e => cj (.inr (.inr (.inr (.inl e)))))
        have e5 : (((j.toNat : Nat) : Int) != 43) = true := dj 43 (fun e => cj (.inr (.inr (.inr (.inr e)))))
        rw [c1] at CA
        rw [c2] at CB
        rw [show ((0 : Nat) : Int) = 0 from rfl] at CA CB
        clear cj dj c1 c2
        generalize (N.check b).2 = f at *
        generalize (N.check a).2 = e at *
        generalize (N.check b).1 = fa at *
        generalize (N.check a).1 = ea at *
        go_enter Try.func4, Try.ntmps4
        go_wp2_with (first | (go_at_call 8; with_reducible refine (H0.out _).mono ?_; rintro e w0 ⟨rfl, rfl⟩) | (go_at_call 8; with_reducible refine (H00.out _).mono ?_; rintro e w0 ⟨rfl, rfl⟩) | (go_at_call 9; with_reducible refine (CA.out _).mono ?_; rintro e w1 ⟨rfl, hb1⟩) | (go_at_call 9; with_reducible refine (CB.out _).mono ?_; rintro e w2 ⟨rfl, hb2⟩) | (go_at_call 11; with_reducible refine (nawake_any _).mono ?_; rintro e w5 ⟨rfl, hb5⟩))
        go_ret
        exact ⟨rfl, (hb1.trans (hb2.mono hb1.size)).trans (hb5.mono (Nat.le_trans hb1.size hb2.size))⟩
    · have d2 : ((((N.check b).2 : Nat) : Int) != 0) = true := by rw [bne_iff_ne]; omega
      rw [c1] at CA
      rw [show ((0 : Nat) : Int) = 0 from rfl] at CA
      clear c1 c2
      generalize (N.check b).2 = f at *
      generalize (N.check a).2 = e at *
      generalize (N.check b).1 = fa at *
      generalize (N.check a).1 = ea at *
      go_enter Try.func4, Try.ntmps4
      go_wp2_with (first | (go_at_call 8; with_reducible refine (H0.out _).mono ?_; rintro e w0 ⟨rfl, rfl⟩) | (go_at_call 8; with_reducible refine (H00.out _).mono ?_; rintro e w0 ⟨rfl, rfl⟩) | (go_at_call 9; with_reducible refine (CA.out _).mono ?_; rintro e w1 ⟨rfl, hb1⟩) | (go_at_call 9; with_reducible refine (CB.out _).mono ?_; rintro e w2 ⟨rfl, hb2⟩) | (go_at_call 11; with_reducible refine (nawake_any _).mono ?_; rintro e w5 ⟨rfl, hb5⟩))
      go_ret
      exact ⟨rfl, (hb1.trans (hb2.mono hb1.size)).trans (hb5.mono (Nat.le_trans hb1.size hb2.size))⟩
  · have d1 : ((((N.check a).2 : Nat) : Int) != 0) = true := by rw [bne_iff_ne]; omega
    clear c1
    generalize (N.check b).2 = f at *
    generalize (N.check a).2 = e at *
    generalize (N.check b).1 = fa at *
    generalize (N.check a).1 = ea at *
    go_enter Try.func4, Try.ntmps4
    go_wp2_with (first | (go_at_call 8; with_reducible refine (H0.out _).mono ?_; rintro e w0 ⟨rfl, rfl⟩) | (go_at_call 8; with_reducible refine (H00.out _).mono ?_; rintro e w0 ⟨rfl, rfl⟩) | (go_at_call 9; with_reducible refine (CA.out _).mono ?_; rintro e w1 ⟨rfl, hb1⟩) | (go_at_call 9; with_reducible refine (CB.out _).mono ?_; rintro e w2 ⟨rfl, hb2⟩) | (go_at_call 11; with_reducible refine (nawake_any _).mono ?_; rintro e w5 ⟨rfl, hb5⟩))
    go_ret
    exact ⟨rfl, (hb1.trans (hb2.mono hb1.size)).trans (hb5.mono (Nat.le_trans hb1.size hb2.size))⟩
set_option maxRecDepth 1000000 in
theorem joins_law : LawHolds 4 Try.f4 := by
  intro H enc W base args ds p hval hA
  rw [Try.params4] at hA hval
  obtain ⟨v0, vs0, d0, ds0, p0, q0, hargs, rfl, rfl, k0, r0⟩ := trodAll_cons hA
  obtain ⟨v1, vs1, d1, ds1, p1, q1, rfl, rfl, rfl, k1, r1⟩ := trodAll_cons r0
  obtain ⟨v2, vs2, d2, ds2, p2, q2, rfl, rfl, rfl, k2, r2⟩ := trodAll_cons r1
  obtain ⟨rfl, rfl, rfl⟩ := trodAll_nil r2
  obtain rfl : args = #[v0, v1, v2] := by cases args; simp_all
  obtain ⟨l, rfl, _⟩ := open_text (hval 0 9 v0 rfl rfl) k0
  obtain ⟨m, rfl, _⟩ := open_text (hval 1 9 v1 rfl rfl) k1
  obtain ⟨b, rfl⟩ := open_byte (hval 2 5 v2 rfl rfl) k2
  exact joins_walk l m b W

theorem joins_lifted (os : Os) (started : os.Started) (H : Type) (enc : TypeId × Value → H) :
    ReturnsInHanded {} Try.checked os 4 .any (Rows.nameJoinsSpec.pre6 enc Try.prog Try.f4 Rows.nameJoinsRow.domain false) (Rows.nameJoinsSpec.post enc Try.prog Try.f4 false true false false) :=
  lifted_of started (by kernel_rfl) Try.func4
    (ChangeSpec.witness6 (enc := enc) (C := Try.checked) false ⟨#[], #[.string ⟨#[]⟩, .string ⟨#[]⟩, .int .u8 0], []⟩ 8 (by kernel_rfl) (by kernel_rfl) (by kernel_rfl) (by kernel_rfl))
    rfl (by kernel_rfl) (fun ds h => by rw [Try.params4] at h; match ds, h with | [_, _, _], _ => rfl) (by rw [Try.params4]; exact of_decide_eq_true (by kernel_rfl)) joins_law
theorem joins_over : Rows.nameJoinsRow.holds Try.pinned (OpenSpec.ofChange Rows.nameJoinsSpec) :=
  OpenClaim.holds_of_wide 4 Try.f4 rfl rfl rfl rfl rfl rfl rfl ⟨rfl, rfl, rfl, rfl, rfl⟩ rfl rfl rfl rfl rfl (by kernel_rfl) Try.func4 (by kernel_rfl)
    (of_decide_eq_true (by kernel_rfl)) (by unfold Func.isWrapper; first | (rw [if_pos (by decide +kernel)]; kernel_rfl) | (rw [if_neg (by decide +kernel)]; exact ⟨rfl, rfl⟩))
    (fun os started H enc _ => joins_lifted os started H enc)
/-- The statement. -/
theorem joins_proved : Rows.NameJoinsSaid := joins_over
#print axioms joins_proved
end Go.Proofs.Ytpinackeelncfaa
