/- The walks of stableCmpFunc and SortStableFunc, of fewer than 20 files, by level.order. -/
import Derived.Test.YtnfabofkfnmplaaLvT
namespace Go.Proofs.Ytnfabofkfnmplaa
open Go.RowKit

set_option maxRecDepth 100000 in
set_option maxHeartbeats 2000000 in
theorem stable_any (l : List L.Fi) (v : Value) (w : World) (h : FRow w v l) (hl : l.length < 20) :
    Calls Try.prog 29 #[v, .int .i64 (l.length : Int), .func (.func 18) #[] #[]] w fun e w' => e = .returned (.tuple #[]) ∧ FRow w' v (L.isort l) ∧ w.grownBy w' v.ownBlock := by
  have IN := Lib.hid (insertion_any l v w h (by omega))
  have d1 : decide ((20 : Int) ≤ (l.length : Int)) = false := decide_eq_false (by omega)
  have d2 : decide ((20 : Int) < (l.length : Int)) = false := decide_eq_false (by omega)
  go_enter Try.func29, Try.ntmps29
  go_wp2
  go_loop [7, 8] (fun a b => a = .int .i64 0 ∧ b = .int .i64 20) (fun _ _ => 0)
  case atStart => exact ⟨rfl, rfl⟩
  case round =>
    obtain ⟨rfl, rfl⟩ := hrel
    go_wp2_with (go_at_call 37; refine IN.out.mono ?_; rintro e w2 ⟨rfl, hr2, hg2⟩)
    go_loopw [6] (fun a wr => a = .int .i64 20 ∧ wr = w2) (fun _ _ => 0)
    case atStart => exact ⟨rfl, rfl⟩
    case round =>
      obtain ⟨rfl, rfl⟩ := hrel
      go_wp2
      go_end0
      exact ⟨rfl, hr2, hg2⟩
set_option maxRecDepth 100000 in
set_option maxHeartbeats 2000000 in
theorem sort_any (l : List L.Fi) (v : Value) (w : World) (h : FRow w v l) (hl : l.length < 20) :
    Calls Try.prog 17 #[v, .func (.func 18) #[] #[]] w fun e w' => e = .returned (.tuple #[]) ∧ FRow w' v (L.isort l) ∧ w.grownBy w' v.ownBlock := by
  obtain ⟨A, m, c, rfl, hm, h⟩ := frow_open h
  have ST := Lib.hid (stable_any l _ w h hl)
  rw [← hm] at ST
  replace hm := Lib.hid hm
  clear h
  go_enter Try.func17, Try.ntmps17
  go_wp2_with (go_at_call 29; refine ST.out.mono ?_; rintro e w2 ⟨rfl, hr2, hg2⟩)
  go_end0
  exact ⟨rfl, hr2, hg2⟩
end Go.Proofs.Ytnfabofkfnmplaa
