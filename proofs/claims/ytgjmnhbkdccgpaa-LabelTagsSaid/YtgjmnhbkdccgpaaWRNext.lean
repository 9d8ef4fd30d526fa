/- The walk of the reference's next rune. -/
import Derived.Test.YtgjmnhbkdccgpaaIter
namespace Go.Proofs.Ytgjmnhbkdccgpaa
open Go.RowKit

namespace N
/-- The bytes behind the first one, as the loop reads them. -/
def cont (s : List UInt8) (p : Nat) : Nat → Nat → Nat → Option Nat
  | 0, _, c => some c
  | k + 1, i, c => if s.length ≤ p + i ∨ (s.getD (p + i) 0).toNat < 128 ∨ 191 < (s.getD (p + i) 0).toNat then none else cont s p k (i + 1) (64 * c + (s.getD (p + i) 0).toNat - 128)
def nxt (s : List UInt8) (p size c least : Nat) : Nat × Nat × Nat :=
  match cont s p (size - 1) 1 c with
  | none => (65533, p, 1)
  | some c => if c < least ∨ 1114111 < c ∨ (55296 ≤ c ∧ c ≤ 57343) then (65533, p, 1) else (c, p, size)
/-- The rune at a place, with the place. -/
def rnAt (s : List UInt8) (p : Nat) : Nat × Nat × Nat := ((rn (s.drop p)).1, p, (rn (s.drop p)).2)
theorem rn_drop (s : List UInt8) (p : Nat) : rn (s.drop p) = rnc (s.getD p 0).toNat (s.getD (p + 1) 0).toNat (s.getD (p + 2) 0).toNat (s.getD (p + 3) 0).toNat (s.length - p) := by
  have e : ∀ k, (s.drop p).getD k 0 = s.getD (p + k) 0 := fun k => by rw [List.getD_eq_getElem?_getD, List.getElem?_drop, List.getD_eq_getElem?_getD]
  unfold rn
  rw [e, e, e, e, List.length_drop, Nat.add_zero]
theorem rnAt_low (s : List UInt8) (p : Nat) (h : (s.getD p 0).toNat < 128) : rnAt s p = ((s.getD p 0).toNat, p, 1) := by
  unfold rnAt
  rw [rn_drop, rnc, if_pos h]
theorem rnAt_bad (s : List UInt8) (p : Nat) (h : ¬ (s.getD p 0).toNat < 128) (h2 : (s.getD p 0).toNat < 192 ∨ 248 ≤ (s.getD p 0).toNat) : rnAt s p = (65533, p, 1) := by
  unfold rnAt
  rw [rn_drop, rnc, if_neg h, if_neg (by omega), if_neg (by omega), if_neg (by omega)]
theorem rnAt_two (s : List UInt8) (p : Nat) (h1 : 192 ≤ (s.getD p 0).toNat) (h2 : (s.getD p 0).toNat < 224) : nxt s p 2 ((s.getD p 0).toNat - 192) 128 = rnAt s p := by
  have hb := (s.getD (p + 1) 0).toNat_lt
  unfold rnAt
  rw [rn_drop, rnc, if_neg (by omega), if_pos ⟨h1, h2⟩]
  unfold nxt
  rw [show 2 - 1 = 0 + 1 from rfl, cont, cont]
  generalize (s.getD p 0).toNat = b0 at *
  generalize (s.getD (p + 1) 0).toNat = b1 at *
  by_cases k : s.length ≤ p + 1 ∨ b1 < 128 ∨ 191 < b1
  · rw [if_pos k, if_neg (by omega)]
  · rw [if_neg k]
    dsimp only
    by_cases k2 : 128 ≤ 64 * (b0 - 192) + (b1 - 128)
    · rw [if_neg (by omega), if_pos (by omega)]
      exact Prod.ext (by simp only; omega) rfl
    · rw [if_pos (by omega), if_neg (by omega)]
theorem rnAt_three (s : List UInt8) (p : Nat) (h1 : 224 ≤ (s.getD p 0).toNat) (h2 : (s.getD p 0).toNat < 240) : nxt s p 3 ((s.getD p 0).toNat - 224) 2048 = rnAt s p := by
  have hb := (s.getD (p + 1) 0).toNat_lt
  have hb2 := (s.getD (p + 2) 0).toNat_lt
  unfold rnAt
  rw [rn_drop, rnc, if_neg (by omega), if_neg (by omega), if_pos ⟨h1, h2⟩]
  unfold nxt
  rw [show 3 - 1 = 0 + 1 + 1 from rfl, cont, cont, cont, show p + (1 + 1) = p + 2 from rfl]
  generalize (s.getD p 0).toNat = b0 at *
  generalize (s.getD (p + 1) 0).toNat = b1 at *
  generalize (s.getD (p + 2) 0).toNat = b2 at *
  by_cases k : s.length ≤ p + 1 ∨ b1 < 128 ∨ 191 < b1
  · rw [if_pos k, if_neg (by omega)]
  · rw [if_neg k]
    by_cases k' : s.length ≤ p + 2 ∨ b2 < 128 ∨ 191 < b2
    · rw [if_pos k', if_neg (by omega)]
    · rw [if_neg k']
      dsimp only
      by_cases k2 : 2048 ≤ 64 * (64 * (b0 - 224) + (b1 - 128)) + (b2 - 128) ∧ (64 * (64 * (b0 - 224) + (b1 - 128)) + (b2 - 128) < 55296 ∨ 57343 < 64 * (64 * (b0 - 224) + (b1 - 128)) + (b2 - 128))
      · rw [if_neg (by omega), if_pos (by omega)]
        exact Prod.ext (by simp only; omega) rfl
      · rw [if_pos (by omega), if_neg (by omega)]
theorem rnAt_four (s : List UInt8) (p : Nat) (h1 : 240 ≤ (s.getD p 0).toNat) (h2 : (s.getD p 0).toNat < 248) : nxt s p 4 ((s.getD p 0).toNat - 240) 65536 = rnAt s p := by
  have hb := (s.getD (p + 1) 0).toNat_lt
  have hb2 := (s.getD (p + 2) 0).toNat_lt
  have hb3 := (s.getD (p + 3) 0).toNat_lt
  unfold rnAt
  rw [rn_drop, rnc, if_neg (by omega), if_neg (by omega), if_neg (by omega), if_pos ⟨h1, h2⟩]
  unfold nxt
  rw [show 4 - 1 = 0 + 1 + 1 + 1 from rfl, cont, cont, cont, cont, show p + (1 + 1) = p + 2 from rfl, show p + (1 + 1 + 1) = p + 3 from rfl]
  generalize (s.getD p 0).toNat = b0 at *
  generalize (s.getD (p + 1) 0).toNat = b1 at *
  generalize (s.getD (p + 2) 0).toNat = b2 at *
  generalize (s.getD (p + 3) 0).toNat = b3 at *
  by_cases k : s.length ≤ p + 1 ∨ b1 < 128 ∨ 191 < b1
  · rw [if_pos k, if_neg (by omega)]
  · rw [if_neg k]
    by_cases k' : s.length ≤ p + 2 ∨ b2 < 128 ∨ 191 < b2
    · rw [if_pos k', if_neg (by omega)]
    · rw [if_neg k']
      by_cases k3 : s.length ≤ p + 3 ∨ b3 < 128 ∨ 191 < b3
      · rw [if_pos k3, if_neg (by omega)]
      · rw [if_neg k3]
        dsimp only
        generalize hc : 64 * (64 * (64 * (b0 - 240) + (b1 - 128)) + (b2 - 128)) + (b3 - 128) = c at *
        have hc2 : 64 * (64 * (64 * (b0 - 240) + b1 - 128) + b2 - 128) + b3 - 128 = c := by omega
        rw [hc2]
        by_cases k2 : 65536 ≤ c ∧ c ≤ 1114111
        · rw [if_neg (by omega), if_pos (by omega)]
        · rw [if_pos (by omega), if_neg (by omega)]
end N
def runeA (r : Nat × Nat × Nat) : Array Value := #[.int .i64 (r.1 : Int), .int .i64 (r.2.1 : Int), .int .i64 (r.2.2 : Int)]
theorem info_rune : (Try.prog.info? 149).map (·.size) = some 3 := by kernel_rfl
set_option maxRecDepth 100000 in
set_option maxHeartbeats 4000000 in
theorem rnext_any (s : List UInt8) (p : Nat) (w : World) (hp : p < s.length) (hs : s.length ≤ 1000000000000) :
    Calls Try.prog 124 #[.string ⟨s.toArray⟩, .int .i64 (p : Int)] w fun e w' => e = .returned (.agg (runeA (N.rnAt s p))) ∧ Below w.heap.size w w' := by
  have hix := str_index_ s p (p : Int) (by simp) hp
  have hb := (s.getD p 0).toNat_lt
  have hz := str_size s
  have p0 : (0 : Int) ≤ (p : Int) := by omega
  have pb : (p : Int) ≤ 1000000000000 := by omega
  by_cases c0 : (s.getD p 0).toNat < 128
  · have hr := N.rnAt_low s p c0
    rw [hr]
    generalize (s.getD p 0).toNat = b at *
    have d1 : decide ((b : Int) < 128) = true := by simp; omega
    go_enter Try.func124, Try.ntmps124
    go_wp2
    exact bodyPost_ret (v := .agg (runeA (b, p, 1))) (results_blk (by rfl) _ ((Blk.new w (runeA (b, p, 1)) 149).alloc _) _ (by rfl) Try.underlying149 (by rfl) info_rune) rfl ⟨rfl, ((Below.refl _ _).alloc (Nat.le_refl _) _).alloc (by simp) _⟩
  · have d1 : decide (((s.getD p 0).toNat : Int) < 128) = false := decide_eq_false (by omega)
    by_cases c1 : (s.getD p 0).toNat < 192 ∨ 248 ≤ (s.getD p 0).toNat
    · have hr := N.rnAt_bad s p c0 c1
      rw [hr]
      generalize (s.getD p 0).toNat = b at *
      rcases c1 with c1 | c1
      · have d2 : decide ((192 : Int) ≤ (b : Int)) = false := by simp; omega
        have d3 : decide ((224 : Int) ≤ (b : Int)) = false := by simp; omega
        have d4 : decide ((240 : Int) ≤ (b : Int)) = false := by simp; omega
        go_enter Try.func124, Try.ntmps124
        go_wp2
        exact bodyPost_ret (v := .agg (runeA (65533, p, 1))) (results_blk (by rfl) _ ((Blk.new w (runeA (65533, p, 1)) 149).alloc _) _ (by rfl) Try.underlying149 (by rfl) info_rune) rfl ⟨rfl, ((Below.refl _ _).alloc (Nat.le_refl _) _).alloc (by simp) _⟩
      · have d2 : decide ((192 : Int) ≤ (b : Int)) = true := by simp; omega
        have d3 : decide ((224 : Int) ≤ (b : Int)) = true := by simp; omega
        have d4 : decide ((240 : Int) ≤ (b : Int)) = true := by simp; omega
        have d5 : decide ((b : Int) < 224) = false := by simp; omega
        have d6 : decide ((b : Int) < 240) = false := by simp; omega
        have d7 : decide ((b : Int) < 248) = false := by simp; omega
        go_enter Try.func124, Try.ntmps124
        go_wp2
        exact bodyPost_ret (v := .agg (runeA (65533, p, 1))) (results_blk (by rfl) _ ((Blk.new w (runeA (65533, p, 1)) 149).alloc _) _ (by rfl) Try.underlying149 (by rfl) info_rune) rfl ⟨rfl, ((Below.refl _ _).alloc (Nat.le_refl _) _).alloc (by simp) _⟩
    · by_cases c2 : (s.getD p 0).toNat < 224
      · have hr := N.rnAt_two s p (by omega) c2
        generalize (s.getD p 0).toNat = b at *
        have d2 : decide ((192 : Int) ≤ (b : Int)) = true := by simp; omega
        have d5 : decide ((b : Int) < 224) = true := by simp; omega
        clear c0
        generalize N.rnAt s p = R at hr ⊢
        unfold N.nxt at hr
        obtain ⟨c0, hc0⟩ : ∃ c0, c0 = b - 192 := ⟨_, rfl⟩
        have hcb : (b : Int) - 192 = (c0 : Int) := by omega
        have hcs : c0 < 32 := by omega
        rw [← hc0] at hr
        have Hr := Lib.hid hr
        clear hr hc0 c1
        go_enter Try.func124, Try.ntmps124
        go_wp2
        go_loopw [8, 10] (fun x y wr => ∃ c i : Nat, x = .int .i64 (c : Int) ∧ y = .int .i64 (i : Int) ∧ 1 ≤ i ∧ i ≤ 2 ∧ ((i = 1 ∧ c < 32) ∨ (i = 2 ∧ c < 2112) ∨ (i = 3 ∧ c < 135232) ∨ (i = 4 ∧ c < 8654912)) ∧ Hid (N.cont s p (2 - 1) 1 c0 = N.cont s p (2 - i) i c) ∧ wr = (w.alloc (.cells #[.int .i64 0, .int .i64 0, .int .i64 0] 149)).alloc (.cells #[.int .i64 65533, .int .i64 (p : Int), .int .i64 1] 149)) (fun _ y _ => 2 - (intOf y).toNat)
        case atStart => exact ⟨c0, 1, by rw [← hcb], rfl, by omega, by omega, .inl ⟨rfl, hcs⟩, rfl, rfl⟩
        case round =>
          obtain ⟨c, i, rfl, rfl, hi1, hi2, hci, hct, rfl⟩ := hrel
          clear hcb hcs d1 d2 d5 hix
          by_cases hlt : i < 2
          · have e1 : decide ((i : Int) < 2) = true := by simp; omega
            have e1' : decide (i < 2) = true := by simpa using hlt
            have hstep : N.cont s p (2 - i) i c = if s.length ≤ p + i ∨ (s.getD (p + i) 0).toNat < 128 ∨ 191 < (s.getD (p + i) 0).toNat then none else N.cont s p (2 - (i + 1)) (i + 1) (64 * c + (s.getD (p + i) 0).toNat - 128) := by
              rw [show 2 - i = (2 - (i + 1)) + 1 by omega, N.cont]
            by_cases k1 : s.length ≤ p + i
            · rw [if_pos (.inl k1)] at hstep
              have hr2 := Hr.out
              rw [hct.out, hstep] at hr2
              dsimp only at hr2
              have e2 : decide (((⟨s.toArray⟩ : ByteArray).size : Int) ≤ (p : Int) + (i : Int)) = true := by rw [hz]; simp; omega
              clear hstep hct
              subst hr2
              go_wp2
              exact bodyPost_ret (v := .agg (runeA (65533, p, 1))) (results_blk (by rfl) _ ((Blk.new w (runeA (65533, p, 1)) 149).alloc _) _ (by rfl) Try.underlying149 (by rfl) info_rune) rfl ⟨rfl, ((Below.refl _ _).alloc (Nat.le_refl _) _).alloc (by simp) _⟩
            · have hx := str_index_ s (p + i) ((p : Int) + (i : Int)) (by simp) (by omega)
              have hb2 := (s.getD (p + i) 0).toNat_lt
              have e2 : decide (((⟨s.toArray⟩ : ByteArray).size : Int) ≤ (p : Int) + (i : Int)) = false := by rw [hz]; simp; omega
              generalize (s.getD (p + i) 0).toNat = x at *
              by_cases k2 : x < 128
              · rw [if_pos (.inr (.inl k2))] at hstep
                have hr2 := Hr.out
                rw [hct.out, hstep] at hr2
                dsimp only at hr2
                have e3 : decide ((x : Int) < 128) = true := by simp; omega
                have e3' : decide (x < 128) = true := by simpa using k2
                clear hstep hct
                subst hr2
                go_wp2
                exact bodyPost_ret (v := .agg (runeA (65533, p, 1))) (results_blk (by rfl) _ ((Blk.new w (runeA (65533, p, 1)) 149).alloc _) _ (by rfl) Try.underlying149 (by rfl) info_rune) rfl ⟨rfl, ((Below.refl _ _).alloc (Nat.le_refl _) _).alloc (by simp) _⟩
              · have e3 : decide ((x : Int) < 128) = false := by simp; omega
                have e3' : decide (x < 128) = false := by simpa using k2
                by_cases k3 : 191 < x
                · rw [if_pos (.inr (.inr k3))] at hstep
                  have hr2 := Hr.out
                  rw [hct.out, hstep] at hr2
                  dsimp only at hr2
                  have e4 : decide ((191 : Int) < (x : Int)) = true := by simp; omega
                  have e4' : decide (191 < x) = true := by simpa using k3
                  clear hstep hct
                  subst hr2
                  go_wp2
                  exact bodyPost_ret (v := .agg (runeA (65533, p, 1))) (results_blk (by rfl) _ ((Blk.new w (runeA (65533, p, 1)) 149).alloc _) _ (by rfl) Try.underlying149 (by rfl) info_rune) rfl ⟨rfl, ((Below.refl _ _).alloc (Nat.le_refl _) _).alloc (by simp) _⟩
                · have e4 : decide ((191 : Int) < (x : Int)) = false := by simp; omega
                  have e4' : decide (191 < x) = false := by simpa using k3
                  rw [if_neg (by omega)] at hstep
                  have Hct := Lib.hid (hct.out.trans hstep)
                  have Hn := Lib.hid (show 64 * (c : Int) + (x : Int) - 128 = ((64 * c + x - 128 : Nat) : Int) by omega)
                  have c00 : (0 : Int) ≤ (c : Int) := by omega
                  have c01 : (c : Int) ≤ 8654912 := by omega
                  have x0 : (0 : Int) ≤ (x : Int) := by omega
                  have x1 : (x : Int) < 256 := by omega
                  have i0 : (0 : Int) ≤ (i : Int) := by omega
                  have i1 : (i : Int) ≤ 4 := by omega
                  clear hstep hct
                  go_wp2
                  go_roundw
                  case rel => exact ⟨64 * c + x - 128, i + 1, by rw [← Hn.out], by go_num, by omega, by omega, by omega, Hct.out, by first | rfl | trivial⟩
                  case measure => simp [intOf]; omega
          · obtain rfl : i = 2 := by omega
            have hr2 := Hr.out
            rw [hct.out] at hr2
            rw [show 2 - 2 = 0 from rfl, N.cont] at hr2
            dsimp only at hr2
            clear hct
            by_cases k1 : c < 128
            · have e1 : decide ((c : Int) < 128) = true := by simp; omega
              have e1' : decide (c < 128) = true := by simpa using k1
              rw [if_pos (by omega)] at hr2
              first | (exfalso; omega) | (subst hr2; go_wp2; exact bodyPost_ret (v := .agg (runeA (65533, p, 1))) (results_blk (by rfl) _ ((Blk.new w (runeA (65533, p, 1)) 149).alloc _) _ (by rfl) Try.underlying149 (by rfl) info_rune) rfl ⟨rfl, ((Below.refl _ _).alloc (Nat.le_refl _) _).alloc (by simp) _⟩)
            · have e1 : decide ((c : Int) < 128) = false := by simp; omega
              have e1' : decide (c < 128) = false := by simpa using k1
              by_cases k2 : 1114111 < c
              · have e2 : decide ((1114111 : Int) < (c : Int)) = true := by simp; omega
                have e2' : decide (1114111 < c) = true := by simpa using k2
                rw [if_pos (by omega)] at hr2
                first | (exfalso; omega) | (subst hr2; go_wp2; exact bodyPost_ret (v := .agg (runeA (65533, p, 1))) (results_blk (by rfl) _ ((Blk.new w (runeA (65533, p, 1)) 149).alloc _) _ (by rfl) Try.underlying149 (by rfl) info_rune) rfl ⟨rfl, ((Below.refl _ _).alloc (Nat.le_refl _) _).alloc (by simp) _⟩)
              · have e2 : decide ((1114111 : Int) < (c : Int)) = false := by simp; omega
                have e2' : decide (1114111 < c) = false := by simpa using k2
                by_cases k3 : 55296 ≤ c
                · have e3 : decide ((55296 : Int) ≤ (c : Int)) = true := by simp; omega
                  have e3' : decide (55296 ≤ c) = true := by simpa using k3
                  by_cases k4 : c ≤ 57343
                  · have e4 : decide ((c : Int) ≤ 57343) = true := by simp; omega
                    have e4' : decide (c ≤ 57343) = true := by simpa using k4
                    rw [if_pos (by omega)] at hr2
                    first | (exfalso; omega) | (subst hr2; go_wp2; exact bodyPost_ret (v := .agg (runeA (65533, p, 1))) (results_blk (by rfl) _ ((Blk.new w (runeA (65533, p, 1)) 149).alloc _) _ (by rfl) Try.underlying149 (by rfl) info_rune) rfl ⟨rfl, ((Below.refl _ _).alloc (Nat.le_refl _) _).alloc (by simp) _⟩)
                  · have e4 : decide ((c : Int) ≤ 57343) = false := by simp; omega
                    have e4' : decide (c ≤ 57343) = false := by simpa using k4
                    rw [if_neg (by omega)] at hr2
                    first | (exfalso; omega) | (subst hr2; go_wp2; exact bodyPost_ret (v := .agg (runeA (c, p, 2))) (results_blk (by rfl) _ ((Blk.new w (runeA (c, p, 2)) 149).alloc _) _ (by rfl) Try.underlying149 (by rfl) info_rune) rfl ⟨rfl, ((Below.refl _ _).alloc (Nat.le_refl _) _).alloc (by simp) _⟩)
                · have e3 : decide ((55296 : Int) ≤ (c : Int)) = false := by simp; omega
                  have e3' : decide (55296 ≤ c) = false := by simpa using k3
                  rw [if_neg (by omega)] at hr2
                  first | (exfalso; omega) | (subst hr2; go_wp2; exact bodyPost_ret (v := .agg (runeA (c, p, 2))) (results_blk (by rfl) _ ((Blk.new w (runeA (c, p, 2)) 149).alloc _) _ (by rfl) Try.underlying149 (by rfl) info_rune) rfl ⟨rfl, ((Below.refl _ _).alloc (Nat.le_refl _) _).alloc (by simp) _⟩)
      · by_cases c3 : (s.getD p 0).toNat < 240
        · have hr := N.rnAt_three s p (by omega) c3
          generalize (s.getD p 0).toNat = b at *
          have d2 : decide ((192 : Int) ≤ (b : Int)) = true := by simp; omega
          have d3 : decide ((224 : Int) ≤ (b : Int)) = true := by simp; omega
          have d5 : decide ((b : Int) < 224) = false := by simp; omega
          have d6 : decide ((b : Int) < 240) = true := by simp; omega
          clear c0
          generalize N.rnAt s p = R at hr ⊢
          unfold N.nxt at hr
          obtain ⟨c0, hc0⟩ : ∃ c0, c0 = b - 224 := ⟨_, rfl⟩
          have hcb : (b : Int) - 224 = (c0 : Int) := by omega
          have hcs : c0 < 32 := by omega
          rw [← hc0] at hr
          have Hr := Lib.hid hr
          clear hr hc0 c1
          go_enter Try.func124, Try.ntmps124
          go_wp2
          go_loopw [8, 10] (fun x y wr => ∃ c i : Nat, x = .int .i64 (c : Int) ∧ y = .int .i64 (i : Int) ∧ 1 ≤ i ∧ i ≤ 3 ∧ ((i = 1 ∧ c < 32) ∨ (i = 2 ∧ c < 2112) ∨ (i = 3 ∧ c < 135232) ∨ (i = 4 ∧ c < 8654912)) ∧ Hid (N.cont s p (3 - 1) 1 c0 = N.cont s p (3 - i) i c) ∧ wr = (w.alloc (.cells #[.int .i64 0, .int .i64 0, .int .i64 0] 149)).alloc (.cells #[.int .i64 65533, .int .i64 (p : Int), .int .i64 1] 149)) (fun _ y _ => 3 - (intOf y).toNat)
          case atStart => exact ⟨c0, 1, by rw [← hcb], rfl, by omega, by omega, .inl ⟨rfl, hcs⟩, rfl, rfl⟩
          case round =>
            obtain ⟨c, i, rfl, rfl, hi1, hi2, hci, hct, rfl⟩ := hrel
            clear hcb hcs d1 d2 d5 hix
            by_cases hlt : i < 3
            · have e1 : decide ((i : Int) < 3) = true := by simp; omega
              have e1' : decide (i < 3) = true := by simpa using hlt
              have hstep : N.cont s p (3 - i) i c = if s.length ≤ p + i ∨ (s.getD (p + i) 0).toNat < 128 ∨ 191 < (s.getD (p + i) 0).toNat then none else N.cont s p (3 - (i + 1)) (i + 1) (64 * c + (s.getD (p + i) 0).toNat - 128) := by
                rw [show 3 - i = (3 - (i + 1)) + 1 by omega, N.cont]
              by_cases k1 : s.length ≤ p + i
              · rw [if_pos (.inl k1)] at hstep
                have hr2 := Hr.out
                rw [hct.out, hstep] at hr2
                dsimp only at hr2
                have e2 : decide (((⟨s.toArray⟩ : ByteArray).size : Int) ≤ (p : Int) + (i : Int)) = true := by rw [hz]; simp; omega
                clear hstep hct
                subst hr2
                go_wp2
                exact bodyPost_ret (v := .agg (runeA (65533, p, 1))) (results_blk (by rfl) _ ((Blk.new w (runeA (65533, p, 1)) 149).alloc _) _ (by rfl) Try.underlying149 (by rfl) info_rune) rfl ⟨rfl, ((Below.refl _ _).alloc (Nat.le_refl _) _).alloc (by simp) _⟩
              · have hx := str_index_ s (p + i) ((p : Int) + (i : Int)) (by simp) (by omega)
                have hb2 := (s.getD (p + i) 0).toNat_lt
                have e2 : decide (((⟨s.toArray⟩ : ByteArray).size : Int) ≤ (p : Int) + (i : Int)) = false := by rw [hz]; simp; omega
                generalize (s.getD (p + i) 0).toNat = x at *
                by_cases k2 : x < 128
                · rw [if_pos (.inr (.inl k2))] at hstep
                  have hr2 := Hr.out
                  rw [hct.out, hstep] at hr2
                  dsimp only at hr2
                  have e3 : decide ((x : Int) < 128) = true := by simp; omega
                  have e3' : decide (x < 128) = true := by simpa using k2
                  clear hstep hct
                  subst hr2
                  go_wp2
                  exact bodyPost_ret (v := .agg (runeA (65533, p, 1))) (results_blk (by rfl) _ ((Blk.new w (runeA (65533, p, 1)) 149).alloc _) _ (by rfl) Try.underlying149 (by rfl) info_rune) rfl ⟨rfl, ((Below.refl _ _).alloc (Nat.le_refl _) _).alloc (by simp) _⟩
                · have e3 : decide ((x : Int) < 128) = false := by simp; omega
                  have e3' : decide (x < 128) = false := by simpa using k2
                  by_cases k3 : 191 < x
                  · rw [if_pos (.inr (.inr k3))] at hstep
                    have hr2 := Hr.out
                    rw [hct.out, hstep] at hr2
                    dsimp only at hr2
                    have e4 : decide ((191 : Int) < (x : Int)) = true := by simp; omega
                    have e4' : decide (191 < x) = true := by simpa using k3
                    clear hstep hct
                    subst hr2
                    go_wp2
                    exact bodyPost_ret (v := .agg (runeA (65533, p, 1))) (results_blk (by rfl) _ ((Blk.new w (runeA (65533, p, 1)) 149).alloc _) _ (by rfl) Try.underlying149 (by rfl) info_rune) rfl ⟨rfl, ((Below.refl _ _).alloc (Nat.le_refl _) _).alloc (by simp) _⟩
                  · have e4 : decide ((191 : Int) < (x : Int)) = false := by simp; omega
                    have e4' : decide (191 < x) = false := by simpa using k3
                    rw [if_neg (by omega)] at hstep
                    have Hct := Lib.hid (hct.out.trans hstep)
                    have Hn := Lib.hid (show 64 * (c : Int) + (x : Int) - 128 = ((64 * c + x - 128 : Nat) : Int) by omega)
                    have c00 : (0 : Int) ≤ (c : Int) := by omega
                    have c01 : (c : Int) ≤ 8654912 := by omega
                    have x0 : (0 : Int) ≤ (x : Int) := by omega
                    have x1 : (x : Int) < 256 := by omega
                    have i0 : (0 : Int) ≤ (i : Int) := by omega
                    have i1 : (i : Int) ≤ 4 := by omega
                    clear hstep hct
                    go_wp2
                    go_roundw
                    case rel => exact ⟨64 * c + x - 128, i + 1, by rw [← Hn.out], by go_num, by omega, by omega, by omega, Hct.out, by first | rfl | trivial⟩
                    case measure => simp [intOf]; omega
            · obtain rfl : i = 3 := by omega
              have hr2 := Hr.out
              rw [hct.out] at hr2
              rw [show 3 - 3 = 0 from rfl, N.cont] at hr2
              dsimp only at hr2
              clear hct
              by_cases k1 : c < 2048
              · have e1 : decide ((c : Int) < 2048) = true := by simp; omega
                have e1' : decide (c < 2048) = true := by simpa using k1
                rw [if_pos (by omega)] at hr2
                first | (exfalso; omega) | (subst hr2; go_wp2; exact bodyPost_ret (v := .agg (runeA (65533, p, 1))) (results_blk (by rfl) _ ((Blk.new w (runeA (65533, p, 1)) 149).alloc _) _ (by rfl) Try.underlying149 (by rfl) info_rune) rfl ⟨rfl, ((Below.refl _ _).alloc (Nat.le_refl _) _).alloc (by simp) _⟩)
              · have e1 : decide ((c : Int) < 2048) = false := by simp; omega
                have e1' : decide (c < 2048) = false := by simpa using k1
                by_cases k2 : 1114111 < c
                · have e2 : decide ((1114111 : Int) < (c : Int)) = true := by simp; omega
                  have e2' : decide (1114111 < c) = true := by simpa using k2
                  rw [if_pos (by omega)] at hr2
                  first | (exfalso; omega) | (subst hr2; go_wp2; exact bodyPost_ret (v := .agg (runeA (65533, p, 1))) (results_blk (by rfl) _ ((Blk.new w (runeA (65533, p, 1)) 149).alloc _) _ (by rfl) Try.underlying149 (by rfl) info_rune) rfl ⟨rfl, ((Below.refl _ _).alloc (Nat.le_refl _) _).alloc (by simp) _⟩)
                · have e2 : decide ((1114111 : Int) < (c : Int)) = false := by simp; omega
                  have e2' : decide (1114111 < c) = false := by simpa using k2
                  by_cases k3 : 55296 ≤ c
                  · have e3 : decide ((55296 : Int) ≤ (c : Int)) = true := by simp; omega
                    have e3' : decide (55296 ≤ c) = true := by simpa using k3
                    by_cases k4 : c ≤ 57343
                    · have e4 : decide ((c : Int) ≤ 57343) = true := by simp; omega
                      have e4' : decide (c ≤ 57343) = true := by simpa using k4
                      rw [if_pos (by omega)] at hr2
                      first | (exfalso; omega) | (subst hr2; go_wp2; exact bodyPost_ret (v := .agg (runeA (65533, p, 1))) (results_blk (by rfl) _ ((Blk.new w (runeA (65533, p, 1)) 149).alloc _) _ (by rfl) Try.underlying149 (by rfl) info_rune) rfl ⟨rfl, ((Below.refl _ _).alloc (Nat.le_refl _) _).alloc (by simp) _⟩)
                    · have e4 : decide ((c : Int) ≤ 57343) = false := by simp; omega
                      have e4' : decide (c ≤ 57343) = false := by simpa using k4
                      rw [if_neg (by omega)] at hr2
                      first | (exfalso; omega) | (subst hr2; go_wp2; exact bodyPost_ret (v := .agg (runeA (c, p, 3))) (results_blk (by rfl) _ ((Blk.new w (runeA (c, p, 3)) 149).alloc _) _ (by rfl) Try.underlying149 (by rfl) info_rune) rfl ⟨rfl, ((Below.refl _ _).alloc (Nat.le_refl _) _).alloc (by simp) _⟩)
                  · have e3 : decide ((55296 : Int) ≤ (c : Int)) = false := by simp; omega
                    have e3' : decide (55296 ≤ c) = false := by simpa using k3
                    rw [if_neg (by omega)] at hr2
                    first | (exfalso; omega) | (subst hr2; go_wp2; exact bodyPost_ret (v := .agg (runeA (c, p, 3))) (results_blk (by rfl) _ ((Blk.new w (runeA (c, p, 3)) 149).alloc _) _ (by rfl) Try.underlying149 (by rfl) info_rune) rfl ⟨rfl, ((Below.refl _ _).alloc (Nat.le_refl _) _).alloc (by simp) _⟩)
        · have hr := N.rnAt_four s p (by omega) (by omega)
          generalize (s.getD p 0).toNat = b at *
          have d2 : decide ((192 : Int) ≤ (b : Int)) = true := by simp; omega
          have d3 : decide ((224 : Int) ≤ (b : Int)) = true := by simp; omega
          have d4 : decide ((240 : Int) ≤ (b : Int)) = true := by simp; omega
          have d5 : decide ((b : Int) < 224) = false := by simp; omega
          have d6 : decide ((b : Int) < 240) = false := by simp; omega
          have d7 : decide ((b : Int) < 248) = true := by simp; omega
          clear c0
          generalize N.rnAt s p = R at hr ⊢
          unfold N.nxt at hr
          obtain ⟨c0, hc0⟩ : ∃ c0, c0 = b - 240 := ⟨_, rfl⟩
          have hcb : (b : Int) - 240 = (c0 : Int) := by omega
          have hcs : c0 < 32 := by omega
          rw [← hc0] at hr
          have Hr := Lib.hid hr
          clear hr hc0 c1
          go_enter Try.func124, Try.ntmps124
          go_wp2
          go_loopw [8, 10] (fun x y wr => ∃ c i : Nat, x = .int .i64 (c : Int) ∧ y = .int .i64 (i : Int) ∧ 1 ≤ i ∧ i ≤ 4 ∧ ((i = 1 ∧ c < 32) ∨ (i = 2 ∧ c < 2112) ∨ (i = 3 ∧ c < 135232) ∨ (i = 4 ∧ c < 8654912)) ∧ Hid (N.cont s p (4 - 1) 1 c0 = N.cont s p (4 - i) i c) ∧ wr = (w.alloc (.cells #[.int .i64 0, .int .i64 0, .int .i64 0] 149)).alloc (.cells #[.int .i64 65533, .int .i64 (p : Int), .int .i64 1] 149)) (fun _ y _ => 4 - (intOf y).toNat)
          case atStart => exact ⟨c0, 1, by rw [← hcb], rfl, by omega, by omega, .inl ⟨rfl, hcs⟩, rfl, rfl⟩
          case round =>
            obtain ⟨c, i, rfl, rfl, hi1, hi2, hci, hct, rfl⟩ := hrel
            clear hcb hcs d1 d2 d5 hix
            by_cases hlt : i < 4
            · have e1 : decide ((i : Int) < 4) = true := by simp; omega
              have e1' : decide (i < 4) = true := by simpa using hlt
              have hstep : N.cont s p (4 - i) i c = if s.length ≤ p + i ∨ (s.getD (p + i) 0).toNat < 128 ∨ 191 < (s.getD (p + i) 0).toNat then none else N.cont s p (4 - (i + 1)) (i + 1) (64 * c + (s.getD (p + i) 0).toNat - 128) := by
                rw [show 4 - i = (4 - (i + 1)) + 1 by omega, N.cont]
              by_cases k1 : s.length ≤ p + i
              · rw [if_pos (.inl k1)] at hstep
                have hr2 := Hr.out
                rw [hct.out, hstep] at hr2
                dsimp only at hr2
                have e2 : decide (((⟨s.toArray⟩ : ByteArray).size : Int) ≤ (p : Int) + (i : Int)) = true := by rw [hz]; simp; omega
                clear hstep hct
                subst hr2
                go_wp2
                exact bodyPost_ret (v := .agg (runeA (65533, p, 1))) (results_blk (by rfl) _ ((Blk.new w (runeA (65533, p, 1)) 149).alloc _) _ (by rfl) Try.underlying149 (by rfl) info_rune) rfl ⟨rfl, ((Below.refl _ _).alloc (Nat.le_refl _) _).alloc (by simp) _⟩
              · have hx := str_index_ s (p + i) ((p : Int) + (i : Int)) (by simp) (by omega)
                have hb2 := (s.getD (p + i) 0).toNat_lt
                have e2 : decide (((⟨s.toArray⟩ : ByteArray).size : Int) ≤ (p : Int) + (i : Int)) = false := by rw [hz]; simp; omega
                generalize (s.getD (p + i) 0).toNat = x at *
                by_cases k2 : x < 128
                · rw [if_pos (.inr (.inl k2))] at hstep
                  have hr2 := Hr.out
                  rw [hct.out, hstep] at hr2
                  dsimp only at hr2
                  have e3 : decide ((x : Int) < 128) = true := by simp; omega
                  have e3' : decide (x < 128) = true := by simpa using k2
                  clear hstep hct
                  subst hr2
                  go_wp2
                  exact bodyPost_ret (v := .agg (runeA (65533, p, 1))) (results_blk (by rfl) _ ((Blk.new w (runeA (65533, p, 1)) 149).alloc _) _ (by rfl) Try.underlying149 (by rfl) info_rune) rfl ⟨rfl, ((Below.refl _ _).alloc (Nat.le_refl _) _).alloc (by simp) _⟩
                · have e3 : decide ((x : Int) < 128) = false := by simp; omega
                  have e3' : decide (x < 128) = false := by simpa using k2
                  by_cases k3 : 191 < x
                  · rw [if_pos (.inr (.inr k3))] at hstep
                    have hr2 := Hr.out
                    rw [hct.out, hstep] at hr2
                    dsimp only at hr2
                    have e4 : decide ((191 : Int) < (x : Int)) = true := by simp; omega
                    have e4' : decide (191 < x) = true := by simpa using k3
                    clear hstep hct
                    subst hr2
                    go_wp2
                    exact bodyPost_ret (v := .agg (runeA (65533, p, 1))) (results_blk (by rfl) _ ((Blk.new w (runeA (65533, p, 1)) 149).alloc _) _ (by rfl) Try.underlying149 (by rfl) info_rune) rfl ⟨rfl, ((Below.refl _ _).alloc (Nat.le_refl _) _).alloc (by simp) _⟩
                  · have e4 : decide ((191 : Int) < (x : Int)) = false := by simp; omega
                    have e4' : decide (191 < x) = false := by simpa using k3
                    rw [if_neg (by omega)] at hstep
                    have Hct := Lib.hid (hct.out.trans hstep)
                    have Hn := Lib.hid (show 64 * (c : Int) + (x : Int) - 128 = ((64 * c + x - 128 : Nat) : Int) by omega)
                    have c00 : (0 : Int) ≤ (c : Int) := by omega
                    have c01 : (c : Int) ≤ 8654912 := by omega
                    have x0 : (0 : Int) ≤ (x : Int) := by omega
                    have x1 : (x : Int) < 256 := by omega
                    have i0 : (0 : Int) ≤ (i : Int) := by omega
                    have i1 : (i : Int) ≤ 4 := by omega
                    clear hstep hct
                    go_wp2
                    go_roundw
                    case rel => exact ⟨64 * c + x - 128, i + 1, by rw [← Hn.out], by go_num, by omega, by omega, by omega, Hct.out, by first | rfl | trivial⟩
                    case measure => simp [intOf]; omega
            · obtain rfl : i = 4 := by omega
              have hr2 := Hr.out
              rw [hct.out] at hr2
              rw [show 4 - 4 = 0 from rfl, N.cont] at hr2
              dsimp only at hr2
              clear hct
              by_cases k1 : c < 65536
              · have e1 : decide ((c : Int) < 65536) = true := by simp; omega
                have e1' : decide (c < 65536) = true := by simpa using k1
                rw [if_pos (by omega)] at hr2
                first | (exfalso; omega) | (subst hr2; go_wp2; exact bodyPost_ret (v := .agg (runeA (65533, p, 1))) (results_blk (by rfl) _ ((Blk.new w (runeA (65533, p, 1)) 149).alloc _) _ (by rfl) Try.underlying149 (by rfl) info_rune) rfl ⟨rfl, ((Below.refl _ _).alloc (Nat.le_refl _) _).alloc (by simp) _⟩)
              · have e1 : decide ((c : Int) < 65536) = false := by simp; omega
                have e1' : decide (c < 65536) = false := by simpa using k1
                by_cases k2 : 1114111 < c
                · have e2 : decide ((1114111 : Int) < (c : Int)) = true := by simp; omega
                  have e2' : decide (1114111 < c) = true := by simpa using k2
                  rw [if_pos (by omega)] at hr2
                  first | (exfalso; omega) | (subst hr2; go_wp2; exact bodyPost_ret (v := .agg (runeA (65533, p, 1))) (results_blk (by rfl) _ ((Blk.new w (runeA (65533, p, 1)) 149).alloc _) _ (by rfl) Try.underlying149 (by rfl) info_rune) rfl ⟨rfl, ((Below.refl _ _).alloc (Nat.le_refl _) _).alloc (by simp) _⟩)
                · have e2 : decide ((1114111 : Int) < (c : Int)) = false := by simp; omega
                  have e2' : decide (1114111 < c) = false := by simpa using k2
                  by_cases k3 : 55296 ≤ c
                  · have e3 : decide ((55296 : Int) ≤ (c : Int)) = true := by simp; omega
                    have e3' : decide (55296 ≤ c) = true := by simpa using k3
                    by_cases k4 : c ≤ 57343
                    · have e4 : decide ((c : Int) ≤ 57343) = true := by simp; omega
                      have e4' : decide (c ≤ 57343) = true := by simpa using k4
                      rw [if_pos (by omega)] at hr2
                      first | (exfalso; omega) | (subst hr2; go_wp2; exact bodyPost_ret (v := .agg (runeA (65533, p, 1))) (results_blk (by rfl) _ ((Blk.new w (runeA (65533, p, 1)) 149).alloc _) _ (by rfl) Try.underlying149 (by rfl) info_rune) rfl ⟨rfl, ((Below.refl _ _).alloc (Nat.le_refl _) _).alloc (by simp) _⟩)
                    · have e4 : decide ((c : Int) ≤ 57343) = false := by simp; omega
                      have e4' : decide (c ≤ 57343) = false := by simpa using k4
                      rw [if_neg (by omega)] at hr2
                      first | (exfalso; omega) | (subst hr2; go_wp2; exact bodyPost_ret (v := .agg (runeA (c, p, 4))) (results_blk (by rfl) _ ((Blk.new w (runeA (c, p, 4)) 149).alloc _) _ (by rfl) Try.underlying149 (by rfl) info_rune) rfl ⟨rfl, ((Below.refl _ _).alloc (Nat.le_refl _) _).alloc (by simp) _⟩)
                  · have e3 : decide ((55296 : Int) ≤ (c : Int)) = false := by simp; omega
                    have e3' : decide (55296 ≤ c) = false := by simpa using k3
                    rw [if_neg (by omega)] at hr2
                    first | (exfalso; omega) | (subst hr2; go_wp2; exact bodyPost_ret (v := .agg (runeA (c, p, 4))) (results_blk (by rfl) _ ((Blk.new w (runeA (c, p, 4)) 149).alloc _) _ (by rfl) Try.underlying149 (by rfl) info_rune) rfl ⟨rfl, ((Below.refl _ _).alloc (Nat.le_refl _) _).alloc (by simp) _⟩)
end Go.Proofs.Ytgjmnhbkdccgpaa
