/- The walk of name.Fold. -/
import Derived.Test.YtpinackeelncfaaWRunes
import Derived.Laws.Cover4
namespace Go.Proofs.Ytpinackeelncfaa
open Go.RowKit

namespace N
def enc (c : Int) : List UInt8 := (Utf8.encode c).data.toList
def lows (l : List (Nat × Nat × Nat)) : List Int := l.map fun r => small (r.1 : Int)
def fold (s : List UInt8) : List UInt8 := (lows (runes s)).flatMap enc
theorem foldl_enc : ∀ (ns : List Int) (b : List UInt8), ns.foldl (fun r n => r ++ Utf8.encode n) (⟨b.toArray⟩ : ByteArray) = ⟨(b ++ ns.flatMap enc).toArray⟩
  | [], b => by simp
  | n :: ns, b => by
    rw [List.foldl_cons, show (⟨b.toArray⟩ : ByteArray) ++ Utf8.encode n = ⟨(b ++ enc n).toArray⟩ from ByteArray.ext (by rw [ByteArray.data_append]; simp [enc]), foldl_enc ns, List.flatMap_cons, List.append_assoc]
theorem runesBytes_enc (ns : List Int) : runesBytes ns = ⟨(ns.flatMap enc).toArray⟩ := foldl_enc ns []
end N
theorem info_i32 : Info1 21 (.int .i32 0) 4 := ⟨by kernel_rfl, rfl, by omega⟩
theorem rune_one (l : List Int) : ∀ u ∈ l.map runeV, u.oneCell' = true := by
  intro u hu
  obtain ⟨b, _, rfl⟩ := List.mem_map.1 hu
  rfl
theorem row_runes {w : World} {v : Value} {ns : List Int} (h : Row1 w 21 v (ns.map runeV)) : (convert 48 9 v).run Try.prog w = .ok (.string ⟨(ns.flatMap N.enc).toArray⟩) w := by
  rcases h.form with ⟨rfl, h0⟩ | ⟨g, cap, hv, hcap⟩
  · obtain rfl : ns = [] := by simpa using h0
    exact run_convert_runes_nil w _ _ 21 0 0 Try.underlying48 Try.underlying21 Try.underlying9
  · rw [List.length_map] at hv
    subst hv
    have h2 := run_convert_runes w 48 9 21 ⟨g, 0, none⟩ ns.length cap ns (Nat.le_refl _) Try.underlying48 Try.underlying21 Try.underlying9 (fun j hj => by
      rw [Addr.add_mid, Nat.zero_add]
      exact h.cell rfl j _ (by rw [List.getElem?_map, List.getElem?_eq_getElem hj, List.getD_eq_getElem?_getD, List.getElem?_eq_getElem hj]; rfl))
    rw [h2, List.take_length, N.runesBytes_enc]
theorem It.grown {w w' : World} {k p : Nat} {s : List UInt8} {e : TypeId} {v : Value} {xs : List Value} (h : It w k s p) (hr : Row1 w e v xs) (o : Obj) (hg : (w.alloc o).grownBy w' v.ownBlock) : It w' k s p := by
  have h1 : It (w.alloc o) k s p := h.at_ (below_alloc1 w o)
  refine (hg.block k h1.lt fun e1 => ?_).trans h1
  rcases hr.2 with ⟨rfl, _⟩ | ⟨g, cap, cur, rfl, _, hh, _⟩
  · simp [Value.ownBlock] at e1
  · simp only [Value.ownBlock, Option.some.injEq] at e1
    subst e1
    unfold It at h
    rw [hh] at h
    cases h
theorem Row1.iterAt {w : World} {k p q : Nat} {s : List UInt8} {e : TypeId} {v : Value} {xs : List Value} (hr : Row1 w e v xs) (h : It w k s p) : Row1 (w.iterAt k ⟨s.toArray⟩ q) e v xs := by
  refine hr.kept fun g hg => Lib.iterAt_other w k g _ q fun e1 => ?_
  subst e1
  rcases hr.2 with ⟨rfl, _⟩ | ⟨g2, cap, cur, rfl, _, hh, _⟩
  · simp [Value.ownBlock] at hg
  · simp only [Value.ownBlock, Option.some.injEq] at hg
    subst hg
    unfold It at h
    rw [hh] at h
    cases h
set_option maxRecDepth 100000 in
set_option maxHeartbeats 1000000 in
theorem fold_any (s : List UInt8) (w : World) (hs : s.length ≤ 1000000000000) :
    Calls Try.prog 17 #[.string ⟨s.toArray⟩] w fun e w' => e = .returned (.string ⟨(N.fold s).toArray⟩) ∧ Below w.heap.size w w' := by
  have h0 := It.start w s
  have hb0 := below_iter0 w ⟨s.toArray⟩
  have HF := Lib.hid (show N.fold s = (N.lows (N.rest s 0)).flatMap N.enc from rfl)
  generalize N.fold s = F at *
  generalize hT : N.lows (N.rest s 0) = T at *
  have HT := Lib.hid hT
  clear hT
  go_enter Try.func17, Try.ntmps17
  go_wp2
  go_loopw [3] (fun v wr => ∃ (p : Nat) (ns : List Int) (vl : Value), vl = v ∧ p ≤ s.length ∧ It wr w.heap.size s p ∧ Row1 wr 21 vl (ns.map runeV) ∧ (vl.ownBlock = none ∨ ∃ k, w.heap.size ≤ k ∧ vl.ownBlock = some k) ∧ ns ++ N.lows (N.rest s p) = T ∧ ns.length ≤ p ∧ Below w.heap.size w wr) (fun _ wr => s.length - wr.iterPos w.heap.size)
  case atStart => exact ⟨0, [], _, rfl, by omega, h0, Row1.nil _ _, .inl rfl, by rw [HT.out]; rfl, by simp, hb0⟩
  case round =>
    clear h0 hb0 HT
    obtain ⟨p, ns, vl, rfl, hp, hit, hrow, hown, hns, hnl, hB⟩ := hrel
    by_cases hlt : p < s.length
    · have hnx := fun ty => hit.next hlt ty
      have hn := N.rest_next s p hlt
      have hst := N.step_le s p hlt
      have hit2 := hit.move (p + (N.rn (s.drop p)).2)
      have hrow1 := hrow.iterAt (q := p + (N.rn (s.drop p)).2) hit
      have hB2 := Lib.below_iterAt hB (Nat.le_refl _) ⟨s.toArray⟩ (p + (N.rn (s.drop p)).2)
      have hpos := Lib.hid hit.pos
      rw [hn, show ∀ a b, N.lows (a :: b) = N.small (a.1 : Int) :: N.lows b from fun _ _ => rfl] at hns
      dsimp only at hns
      have Hst := Lib.hid hst
      have hlen : ((ns.map runeV).length + 1) * 4 ≤ 140737488355328 := by rw [List.length_map]; omega
      have SC := Lib.hid (fun W => small_any ((N.rn (s.drop p)).1 : Int) W)
      clear hn hit hst hlt hrow
      generalize (N.rn (s.drop p)).1 = c at *
      generalize hq : p + (N.rn (s.drop p)).2 = q at *
      clear hq
      generalize wr.iterAt w.heap.size ⟨s.toArray⟩ q = wq at *
      generalize N.small (c : Int) = sm at *
      have Hns := Lib.hid hns
      clear hns
      go_wp2_with (first | (go_at_call 20; with_reducible refine (SC.out _).mono ?_; rintro e w1 ⟨rfl, hb1⟩) | (at_builtin; refine wpList_append_row rfl info_i32 (.tmp 11) (.tmp 14) 48 rfl Try.underlying48 rfl ((hrow1.at_ hb1).alloc _) ⟨w1.heap.size, 0, none⟩ 1 1 [runeV sm] rfl rfl (new_cells _ _ _ rfl _) (rune_one [sm]) hlen ?_; intro v1 w2 hrow2 hg2 hr2))
      have hB1 := (hB2.trans (hb1.mono hB2.size)).alloc (o := .cells #[runeV sm] 21) (Nat.le_trans hB2.size hb1.size)
      have hs1 : w.heap.size ≤ (w1.alloc (.cells #[runeV sm] 21)).heap.size := by have := hB2.size; have := hb1.size; simp; omega
      have hB3 := below_grown_own hB1 hs1 hg2 hown
      have hown2 := own_later hown hs1 hr2
      have hit3 := (hit2.at_ hb1).grown (hrow1.at_ hb1) _ hg2
      rw [show ns.map runeV ++ [runeV sm] = (ns ++ [sm]).map runeV by simp] at hrow2
      have hpos2 := Lib.hid hit3.pos
      go_roundw
      case rel => exact ⟨q, ns ++ [sm], _, rfl, Hst.out.1, hit3, hrow2, hown2, by rw [List.append_assoc]; exact Hns.out, by have := Hst.out; simp; omega, hB3⟩
      case measure => rw [hpos.out, hpos2.out]; have := Hst.out; omega
    · have hnx := fun ty => hit.stop hlt ty
      have hn := N.rest_end s p hlt
      rw [hn, show N.lows [] = [] from rfl, List.append_nil] at hns
      have hcv := row_runes hrow
      rw [hns] at hcv
      have hF := HF.out
      rw [← hF] at hcv
      clear hn hit hns hlt hF
      go_wp2
      go_ret
      exact ⟨rfl, hB⟩
end Go.Proofs.Ytpinackeelncfaa
