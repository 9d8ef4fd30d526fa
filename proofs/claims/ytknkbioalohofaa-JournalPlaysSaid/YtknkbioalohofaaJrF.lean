/- Contracts of the journal's calls in another form; the walk of chirographlaw07.awake. -/
import Derived.Test.YtknkbioalohofaaJrE
import Derived.Test.YtknkbioalohofaaPureSeg2
import Derived.Test.YtknkbioalohofaaKit6
namespace Go.Proofs.Ytknkbioalohofaa
open Go.RowKit

section
variable {B : Nat} {w : World} {p j n m e' : Nat} {M M' : D.Dk} {z : Int} {segs : List Jr.Sg} {T : List (List UInt8)}
theorem jadd_to (h : DkAt B w p M) (hj : JrAt w j p n) (hn : n < 10000000000) (s : List UInt8) (hs : s.length ≤ 65536) (hu : D.used M.files + (s.length + 8) ≤ 1099511627776) (hM : Jr.add M n s = (M', e')) (hz : (e' : Int) = z) :
    Calls Try.prog 57 #[.pointer (some ⟨j, 0, none⟩), .string ⟨s.toArray⟩] w fun e w' => e = .returned (.int .i64 z) ∧ DkAt B w' p M' ∧ DStp B w w' := by
  have := add_any h hj hn s hs hu
  rw [hM] at this
  rw [← hz]; exact this
theorem jturn_to (h : JrAt w j p n) (hn : n < 1000000000) (hm : n + 1 = m) (hz : (m : Int) = z) : Calls Try.prog 60 #[.pointer (some ⟨j, 0, none⟩)] w fun e w' => e = .returned (.int .i64 z) ∧ JrAt w' j p m ∧ Only j w w' := by
  rw [← hz, ← hm]; exact turn_any h hn
theorem jnow_to (h : JrAt w j p n) (hz : (n : Int) = z) : Calls Try.prog 58 #[.pointer (some ⟨j, 0, none⟩)] w fun e w' => e = .returned (.int .i64 z) ∧ w' = w := by
  rw [← hz]; exact now_any h
theorem jname_to (n : Nat) (hn : n < 10000000000) {s : List UInt8} (hs : Jr.name n = s) (hz : (n : Int) = z) (w : World) : Calls Try.prog 61 #[.int .i64 z] w fun e w' => e = .returned (.string ⟨s.toArray⟩) ∧ Below w.heap.size w w' := by
  rw [← hz, ← hs]; exact name_any n hn w
theorem jopen_to (h : DkAt B w p M) (hd : M.dead = false) (hf : M.files = Jr.files segs) (hs : Jr.Up segs) (hu : D.used M.files ≤ 1000000000) (hn : Jr.next segs = n) (ht : Jr.texts segs = T) {L : Nat} (hL : T.length = L) :
    Calls Try.prog 56 #[.pointer (some ⟨p, 0, none⟩), .int .i64 0] w fun e w' => ∃ j A c, e = .returned (.tuple #[.pointer (some ⟨j, 0, none⟩), .slice A L c, .int .i64 0]) ∧ w.heap.size ≤ j ∧ JrAt w' j p n ∧ Row1 w' 9 (.slice A L c) (T.map strV) ∧ DkAt B w' p M ∧ Below w.heap.size w w' := by
  refine (jopen_any h hd segs hf hs hu).mono ?_
  rintro e w' ⟨j, v, rfl, h1, h2, h3, -, h4⟩
  rw [hn] at h2
  rw [ht] at h3
  obtain ⟨A, c, rfl, -, -⟩ := h3.reads
  rw [List.length_map, hL] at h3 ⊢
  exact ⟨j, A, c, rfl, h1, h2, h3, h.at_ h4, h4⟩
theorem rsame_yes {a b : List (List UInt8)} (hab : a = b) {v1 v2 : Value} {w : World} (h1 : SRead w v1 (a.map strV)) (h2 : SRead w v2 (b.map strV)) (ha : a.length ≤ 4611686018427387904) :
    Calls Try.prog 29 #[v1, v2] w fun e w' => e = .returned (.bool true) ∧ ∃ n, w' = w.drewN n := by
  have := rsame_any a b v1 v2 w h1 h2 ha
  rw [decide_eq_true hab] at this
  exact this
theorem JrAt.dstp {w w' : World} (h : JrAt w j p n) (d : DStp B w w') : JrAt w' j p n := Blk.dstp h d (by decide) (by decide)
theorem DkAt.turned {w w' : World} (h : DkAt B w p M) (hj : JrAt w j p n) (o : Only j w w') : DkAt B w' p M := h.only hj (by decide) o
end
set_option maxRecDepth 100000 in
set_option maxHeartbeats 4000000 in
theorem jawake_any (w : World) : Calls Try.prog 59 #[] w fun e w' => e = .returned (.bool true) ∧ Below w.heap.size w w' := by
  obtain ⟨S1, g1, t1, u1, l1, -, -, -, a1⟩ := Jr.put_ok (Jr.Good.nil 0) (by decide) [97] (by decide)
  obtain ⟨S2, g2, t2, u2, l2, x2, -, -, a2⟩ := Jr.put_ok (g1.later (Nat.zero_le 1)) (by decide) [99] (by decide)
  rw [show D.used (Jr.files []) = 0 from rfl] at u1 a1
  simp only [List.length_cons, List.length_nil] at u1 u2 l1 l2 a1 a2
  rw [t1] at t2
  have NW := Lib.hid (new_to (M' := Jr.mk 1000 []) 1000 (by omega) w rfl)
  have O1 := Lib.hid (fun W p (h : DkAt w.heap.size W p (Jr.mk 1000 [])) => jopen_to (n := 0) (T := []) h rfl rfl Jr.Up.nil (by decide) rfl rfl (L := 0) rfl)
  have O2 := Lib.hid (fun W p (h : DkAt w.heap.size W p (Jr.mk 1000 S2)) => jopen_to (n := 2) (T := [[97], [99]]) h rfl rfl g2.1 (by show D.used (Jr.files S2) ≤ _; omega) x2 t2 (L := 2) rfl)
  have D1 := Lib.hid (fun W p j (h : DkAt w.heap.size W p (Jr.mk 1000 [])) (hj : JrAt W j p 0) => jadd_to (z := 0) h hj (by decide) [97] (by decide) (by decide) (a1 1000 (by omega) (by decide)) rfl)
  have D2 := Lib.hid (fun W p j (h : DkAt w.heap.size W p (Jr.mk 1000 S1)) (hj : JrAt W j p 1) => jadd_to (z := 0) h hj (by decide) [99] (by decide) (by show D.used (Jr.files S1) + _ ≤ _; simp only [List.length_cons, List.length_nil]; omega) (a2 1000 (by omega) (by omega)) rfl)
  have T1 := Lib.hid (fun W p j (hj : JrAt W j p 0) => jturn_to (z := 1) hj (by decide) rfl rfl)
  have N1 := Lib.hid (fun W p j (hj : JrAt W j p 2) => jnow_to (z := 2) hj rfl)
  have N7 := Lib.hid (fun W => jname_to (z := 7) (s := [108, 111, 103, 45, 48, 48, 48, 48, 48, 48, 48, 48, 48, 55]) 7 (by decide) rfl rfl W)
  clear a1 a2 g1 g2 t1 t2 u1 u2 l1 l2 x2
  go_enter Try.func59, Try.ntmps59
  go_wp2_with (first | (go_at_call 37; (with_reducible refine NW.out.mono ?_); rintro e w1 ⟨p, rfl, k1, s1⟩) | (go_at_call 56; first | ((with_reducible refine (O2.out _ _ k5).mono ?_); rintro e w6 ⟨jj, A6, c6, rfl, q6, j6, r6, k6, b6⟩; have r6a := r6.alloc (.cells #[.string ⟨#[97]⟩, .string ⟨#[99]⟩] 9); have r6b := Row1.build w6 9 (([[97], [99]] : List (List UInt8)).map strV) #[.string ⟨#[97]⟩, .string ⟨#[99]⟩] 2 rfl rfl (by decide)) | ((with_reducible refine (O1.out _ _ k1).mono ?_); rintro e w2 ⟨j, A2, c2, rfl, q2, j2, r2, k2, b2⟩)) | (go_at_call 57; first | ((with_reducible refine (D2.out _ _ _ k4 j4).mono ?_); rintro e w5 ⟨rfl, k5, s5⟩) | ((with_reducible refine (D1.out _ _ _ k2 j2).mono ?_); rintro e w3 ⟨rfl, k3, s3⟩; have j3 := j2.dstp s3)) | (go_at_call 60; (with_reducible refine (T1.out _ _ _ j3).mono ?_); rintro e w4 ⟨rfl, j4, o4⟩; have k4 := k3.turned j3 o4) | (go_at_call 58; (with_reducible refine (N1.out _ _ _ j6).mono ?_); rintro e w7 ⟨rfl, rfl⟩) | (go_at_call 29; (with_reducible refine (rsame_yes (a := [[97], [99]]) (b := [[97], [99]]) rfl r6a.reads r6b.reads (by decide)).mono ?_); rintro e w8 ⟨rfl, nq, rfl⟩) | (go_at_call 61; (with_reducible refine (N7.out _).mono ?_); rintro e w9 ⟨rfl, b9⟩))
  go_ret
  have B2 := s1.trans (b2.mono s1.size)
  have B5 := (o4.below (B2.trans s3.below) (Nat.le_trans s1.size q2)).trans s5.below
  have B6 := B5.trans (b6.mono B5.size)
  have B8 := below_drewN (B6.alloc B6.size (.cells #[.string ⟨#[97]⟩, .string ⟨#[99]⟩] 9)) nq
  exact ⟨rfl, B8.trans (b9.mono B8.size)⟩
end Go.Proofs.Ytknkbioalohofaa
