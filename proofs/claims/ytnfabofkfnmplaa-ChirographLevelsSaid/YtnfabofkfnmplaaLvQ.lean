/- The walks of the closures, of MinFunc, of span. -/
import Derived.Test.YtnfabofkfnmplaaLvE
namespace Go.Proofs.Ytnfabofkfnmplaa
open Go.RowKit

/-- Apply's closure: is it this number? -/
theorem clos_num (n g : Nat) (w : World) (hb : Blk w g #[.int .i64 (n : Int)] 3) : Says w 15 #[.pointer (some ⟨g, 0, none⟩)] (fun f => decide (f.num = n)) := by
  intro W f hW
  have c0 := (hb.at_ hW).cellv (i := 0) (v := .int .i64 (n : Int)) rfl
  have hlt : g < W.heap.size := (hb.at_ hW).lt
  have hB := below_alloc1 W (.cells #[.int .i64 (f.num : Int), .int .i64 (f.lev : Int), .int .i64 (f.size : Int), .string ⟨f.first.toArray⟩, .string ⟨f.last.toArray⟩] 33)
  have hd : ((f.num : Int) == (n : Int)) = decide (f.num = n) := by
    by_cases e : f.num = n
    · rw [e, decide_eq_true rfl]; simp
    · rw [decide_eq_false e, beq_eq_false_iff_ne]; omega
  generalize decide (f.num = n) = b at *
  show Calls Try.prog _ #[fiV f, .pointer (some ⟨g, 0, none⟩)] W _
  unfold fiV
  cases b with
  | true =>
    have e1 : f.num = n := by rw [beq_iff_eq] at hd; omega
    subst e1
    go_enter Try.func15, Try.ntmps15
    go_wp2
    go_ret
    exact ⟨by simp, hB⟩
  | false =>
    have e1 : ¬ f.num = n := by rw [beq_eq_false_iff_ne] at hd; omega
    go_enter Try.func15, Try.ntmps15
    go_wp2
    go_ret
    exact ⟨by (simp; exact e1), hB⟩
/-- Last's closure: has it a key in common? -/
theorem clos_meets (a : L.Fi) (g : Nat) (w : World) (hb : Blk w g #[.int .i64 (a.num : Int), .int .i64 (a.lev : Int), .int .i64 (a.size : Int), .string ⟨a.first.toArray⟩, .string ⟨a.last.toArray⟩] 33) : Says w 36 #[.pointer (some ⟨g, 0, none⟩)] (L.meets (a.first, a.last)) := by
  intro W f hW
  obtain ⟨⟨x0, x1, x2, x3, x4⟩, -⟩ := free5 (hb.at_ hW)
  have hlt : g < W.heap.size := (hb.at_ hW).lt
  have hB := below_alloc1 W (.cells #[.int .i64 (f.num : Int), .int .i64 (f.lev : Int), .int .i64 (f.size : Int), .string ⟨f.first.toArray⟩, .string ⟨f.last.toArray⟩] 33)
  have MM := Lib.hid (fun W' => meets_any a f W')
  show Calls Try.prog _ #[fiV f, .pointer (some ⟨g, 0, none⟩)] W _
  unfold fiV at *
  go_enter Try.func36, Try.ntmps36
  go_wp2_with (go_at_call 33; refine (MM.out _).mono ?_; rintro e w2 ⟨rfl, hb2⟩)
  go_ret
  exact ⟨rfl, hB.trans (hb2.mono hB.size)⟩
set_option maxHeartbeats 1000000 in
/-- Pick's closure. -/
theorem clos_cmp (a b : L.Fi) (W : World) : Calls Try.prog 22 #[fiV a, fiV b] W fun e w' => e = .returned (.int .i64 (L.cmpN a.num b.num)) ∧ Below W.heap.size W w' := by
  obtain ⟨-, -, hB⟩ := two_new W #[.int .i64 (a.num : Int), .int .i64 (a.lev : Int), .int .i64 (a.size : Int), .string ⟨a.first.toArray⟩, .string ⟨a.last.toArray⟩] #[.int .i64 (b.num : Int), .int .i64 (b.lev : Int), .int .i64 (b.size : Int), .string ⟨b.first.toArray⟩, .string ⟨b.last.toArray⟩] 33 33
  have CC := Lib.hid (fun W' => cmp_i a.num b.num W')
  unfold fiV
  go_enter Try.func22, Try.ntmps22
  go_wp2_with (go_at_call 23; refine (CC.out _).mono ?_; rintro e w2 ⟨rfl, rfl⟩)
  go_ret
  exact ⟨rfl, hB⟩
end Go.Proofs.Ytnfabofkfnmplaa
