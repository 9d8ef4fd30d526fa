/- The walk of the reference's runes of a text: elements of three cells. -/
import Derived.Test.YtgjmnhbkdccgpaaWRNext
import Derived.Laws.AppendOwn
namespace Go.Proofs.Ytgjmnhbkdccgpaa
open Go.RowKit

def runeL (r : Nat × Nat × Nat) : List Value := [.int .i64 (r.1 : Int), .int .i64 (r.2.1 : Int), .int .i64 (r.2.2 : Int)]
def runeC (l : List (Nat × Nat × Nat)) : List Value := l.flatMap runeL
/-- The runes of a slice that the program fills by append. -/
def RowR (w : World) (B : Nat) (v : Value) (l : List (Nat × Nat × Nat)) : Prop := w.ownsRow B 149 3 v l.length (runeC l)
/-- The runes lie from the head of block g on. -/
def RunesAt (w : World) (g : Nat) (l : List (Nat × Nat × Nat)) : Prop := g < w.heap.size ∧ ∀ j r, l[j]? = some r → w.rangeAt g (j * 3) (runeL r)
theorem RunesAt.at_ {w w' : World} {g : Nat} {l : List (Nat × Nat × Nat)} (h : RunesAt w g l) (hb : Below w.heap.size w w') : RunesAt w' g l := by
  refine ⟨Nat.lt_of_lt_of_le h.1 hb.size, fun j r hj i v hi => ?_⟩
  exact (hb.cell (p := ⟨g, j * 3 + i, none⟩) h.1).trans (h.2 j r hj i v hi)
theorem runeC_get : ∀ (l : List (Nat × Nat × Nat)) (j : Nat) (r : Nat × Nat × Nat), l[j]? = some r → ∀ i v, (runeL r)[i]? = some v → (runeC l)[j * 3 + i]? = some v
  | [], j, r, h, i, v, hv => by cases h
  | x :: l, 0, r, h, i, v, hv => by
    obtain rfl : x = r := by simpa using h
    have hi : i < (runeL x).length := (List.getElem?_eq_some_iff.1 hv).1
    show (runeL x ++ runeC l)[0 * 3 + i]? = some v
    rw [Nat.zero_mul, Nat.zero_add, List.getElem?_append_left hi]
    exact hv
  | x :: l, j + 1, r, h, i, v, hv => by
    show (runeL x ++ runeC l)[(j + 1) * 3 + i]? = some v
    rw [List.getElem?_append_right (by show 3 ≤ _; omega), show (j + 1) * 3 + i - (runeL x).length = j * 3 + i by show _ - 3 = _; omega]
    exact runeC_get l j r (by simpa using h) i v hv
theorem RowR.reads {w : World} {B : Nat} {v : Value} {l : List (Nat × Nat × Nat)} (h : RowR w B v l) (hv : v ≠ .slice none 0 0) : ∃ g cap, v = .slice (some ⟨g, 0, none⟩) l.length cap ∧ l.length ≤ cap ∧ B ≤ g ∧ RunesAt w g l := by
  rcases h.2 with ⟨e, _⟩ | ⟨g, cap, cur, rfl, h1, h2, h3, h4⟩
  · exact absurd e hv
  · refine ⟨g, cap, rfl, h3, h1, (h.lt g rfl).2, fun j r hj i v hi => ?_⟩
    have := h.cells rfl _ _ (runeC_get l j r hj i v hi)
    rwa [Addr.add_mid, Nat.zero_add] at this
theorem RowR.at_ {w w' : World} {B : Nat} {v : Value} {l : List (Nat × Nat × Nat)} (h : RowR w B v l) (hb : Below w.heap.size w w') : RowR w' B v l := by
  refine ⟨h.1, ?_⟩
  rcases h.2 with hn | ⟨g, cap, cur, rfl, hb', hg, rest⟩
  · exact .inl hn
  · exact .inr ⟨g, cap, cur, rfl, hb', (hb.block g (h.lt g rfl).2).trans hg, rest⟩
theorem RowR.alloc {w : World} {B : Nat} {v : Value} {l : List (Nat × Nat × Nat)} (h : RowR w B v l) (o : Obj) : RowR (w.alloc o) B v l := World.ownsRow.alloc h o
theorem info_rune3 : (Try.prog.info? 149).map (fun i => (i.zero, i.size, i.bytes)) = some (some (.agg #[.int .i64 0, .int .i64 0, .int .i64 0]), 3, 24) := by kernel_rfl
section
variable {ops : Array Oper} {o : Oper} {a : Act} {w : World} {B : Nat} {v : Value} {l : List (Nat × Nat × Nat)}
theorem wpList_append_rune {rest : List Oper} {Q : Exit → Act → World → Prop} (hg : o.guard = none) (s x : Operand) (hop : o.op = Op.call { callee := Callee.builtin Builtin.append, args := #[s, x], argTypes := #[146, 146] }) (hs : a.eval s = v) (h : RowR w B v l) (hB : B ≤ w.heap.size)
    (ad : Addr) (c : Nat) (r : Nat × Nat × Nat) (hx : a.eval x = .slice (some ad) 1 c) (hnews : ∀ j u, (runeL r)[j]? = some u → w.cell? (ad.add j) = some u) (hlen : l.length ≤ 1000000000000)
    (hK : ∀ v' w', RowR w' B v' (l ++ [r]) → w.grownBy w' v.ownBlock → v' ≠ .slice none 0 0 → wpList Try.prog ops Q rest (a.put o.dst v') w') : wpList Try.prog ops Q (o :: rest) a w := by
  obtain ⟨i5, hi, hz0, hz1, hz2⟩ := info_parts info_rune3
  refine wpList_append_own w hg s x 146 hop B 149 i5 _ 3 24 Try.underlying146 hi hz0 hz1 hz2 rfl (by omega) v l.length (runeC l) hs h ad 1 c (runeL r) hx rfl hnews (fun u hu => by
    simp only [runeL, List.mem_cons, List.not_mem_nil, or_false] at hu
    rcases hu with rfl | rfl | rfl <;> rfl) (Nat.le_trans (show l.length + 1 ≤ 1000000000001 by omega) (by decide)) (by omega) hB fun v' w' h1 h2 h3 => hK v' w' ?_ h2 fun e => by have := (h3.1 e).2; omega
  unfold RowR
  rw [List.length_append, show runeC (l ++ [r]) = runeC l ++ runeL r by simp [runeC]]
  exact h1
end
theorem new_cells2 (w : World) (o : Obj) (l : List Value) (cs : Array Value) (hc : cs = l.toArray) (t : TypeId) : ∀ (j : Nat) (u : Value), l[j]? = some u → ((w.alloc o).alloc (.cells cs t)).cell? ((⟨w.heap.size + 1, 0, none⟩ : Addr).add j) = some u := by
  have h := new_cells (w.alloc o) l cs hc t
  rwa [World.size_alloc ..] at h
set_option maxRecDepth 100000 in
set_option maxHeartbeats 4000000 in
theorem rrunes_any2 (s : List UInt8) (w : World) (hs : s.length ≤ 100000000000) :
    Calls Try.prog 103 #[.string ⟨s.toArray⟩] w fun e w' => ∃ g cap, e = .returned (.slice (some ⟨g, 0, none⟩) (N.runes s).length cap) ∧ (N.runes s).length ≤ cap ∧ w.heap.size ≤ g ∧ RunesAt w' g (N.runes s) ∧ Below w.heap.size w w' := by
  have hz := str_size s
  have hT : N.rest s 0 = N.runes s := rfl
  generalize N.runes s = T at *
  have HT := Lib.hid hT
  clear hT
  go_enter Try.func103, Try.ntmps103
  go_wp2
  go_loopw [3, 4] (fun v x wr => ∃ (p : Nat) (l : List (Nat × Nat × Nat)) (vl : Value), vl = v ∧ x = .int .i64 (p : Int) ∧ p ≤ s.length ∧ l.length ≤ p ∧ RowR wr w.heap.size vl l ∧ vl ≠ .slice none 0 0 ∧ l ++ N.rest s p = T ∧ Below w.heap.size w wr) (fun _ x _ => s.length - (intOf x).toNat)
  case atStart => exact ⟨0, [], _, rfl, rfl, by omega, by simp, World.ownsRow_made w #[] 0 (Nat.le_refl _) (by decide) rfl, by simp, by rw [HT.out]; rfl, below_alloc1 w _⟩
  case round =>
    clear HT
    obtain ⟨p, l, vl, rfl, rfl, hp, hl, hrow, hne, hns, hB⟩ := hrel
    by_cases hlt : p < s.length
    · have RN := Lib.hid (fun W => rnext_any s p W hlt (by omega))
      have hn := N.rest_next s p hlt
      have hst := N.step_le s p hlt
      rw [hn] at hns
      have e1 : decide ((p : Int) < ((⟨s.toArray⟩ : ByteArray).size : Int)) = true := by rw [hz]; simp; omega
      have e1' : decide (p < s.length) = true := by simpa using hlt
      rw [show runeA (N.rnAt s p) = #[.int .i64 ((N.rn (s.drop p)).1 : Int), .int .i64 (p : Int), .int .i64 ((N.rn (s.drop p)).2 : Int)] from rfl] at RN
      have hp0 : (0 : Int) ≤ (p : Int) := by omega
      have hp1 : (p : Int) ≤ 100000000000 := by omega
      have hz2 : (N.rn (s.drop p)).2 ≤ 100000000000 := by omega
      have Hns := Lib.hid hns
      have Hst := Lib.hid hst
      clear hn hns hst hlt
      generalize (N.rn (s.drop p)).1 = c at *
      generalize (N.rn (s.drop p)).2 = z at *
      have hz0 : (0 : Int) ≤ (z : Int) := by omega
      have hz3 : (z : Int) ≤ 100000000000 := by omega
      have hs1 : ∀ w1 : World, wr.heap.size ≤ w1.heap.size → w.heap.size ≤ ((w1.alloc (.cells (runeA (c, p, z)) 149)).alloc (.cells (runeA (c, p, z)) 149)).heap.size := fun w1 h => by have := hB.size; simp; omega
      have Hs1 := Lib.hid hs1
      clear hs1
      go_wp2_with (first | (go_at_call 124; with_reducible refine (RN.out _).mono ?_; rintro e w1 ⟨rfl, hb1⟩) | (at_builtin; refine wpList_append_rune rfl (.tmp 14) (.tmp 16) rfl rfl (((hrow.at_ hb1).alloc _).alloc _) (Hs1.out w1 hb1.size) ⟨w1.heap.size + 1, 0, none⟩ 1 (c, p, z) rfl (new_cells2 _ _ _ _ rfl _) (by omega) ?_; intro v1 w2 hrow2 hg2 hne2; have kz : w2.cell? ⟨w1.heap.size, 2, none⟩ = some (.int .i64 (z : Int)) := hg2.cell (cell_of_row _ _ _ (runeA (c, p, z)) 149 (0, 0) (((Blk.new w1 (runeA (c, p, z)) 149).alloc _) : _)) (fun e => by have := (hrow.lt _ e.symm).2; have := hb1.size; simp at *; omega)))
      have hB1 := ((hB.trans (hb1.mono hB.size)).alloc (o := .cells (runeA (c, p, z)) 149) (Nat.le_trans hB.size hb1.size)).alloc (o := .cells (runeA (c, p, z)) 149) (by have := hB.size; have := hb1.size; simp; omega)
      have hB2 := below_grown hB1 (Hs1.out w1 hb1.size) hg2 fun k hk => (hrow.lt k hk).1
      have Hq := Lib.hid (show (p : Int) + (z : Int) = ((p + z : Nat) : Int) by simp)
      go_roundw
      case rel => exact ⟨p + z, l ++ [(c, p, z)], _, rfl, by rw [← Hq.out], Hst.out.1, by have := Hst.out; simp; omega, hrow2, hne2, by rw [List.append_assoc]; exact Hns.out, hB2⟩
      case measure => have := Hst.out; simp [intOf]; omega
    · have hn := N.rest_end s p hlt
      rw [hn, List.append_nil] at hns
      subst hns
      have e1 : decide ((p : Int) < ((⟨s.toArray⟩ : ByteArray).size : Int)) = false := by rw [hz]; simp; omega
      have e1' : decide (p < s.length) = false := by simpa using hlt
      obtain ⟨g, cap, rfl, hc, hgl, hra⟩ := hrow.reads hne
      clear hn hlt
      go_wp2
      go_ret
      exact ⟨g, cap, rfl, hc, hgl, hra, hB⟩
theorem rrunes_any (s : List UInt8) (w : World) (hs : s.length ≤ 100000000000) :
    Calls Try.prog 103 #[.string ⟨s.toArray⟩] w fun e w' => ∃ g cap, e = .returned (.slice (some ⟨g, 0, none⟩) (N.runes s).length cap) ∧ (N.runes s).length ≤ cap ∧ RunesAt w' g (N.runes s) ∧ Below w.heap.size w w' :=
  (rrunes_any2 s w hs).mono fun _ _ h => by
    obtain ⟨g, cap, h1, h2, _, h3, h4⟩ := h
    exact ⟨g, cap, h1, h2, h3, h4⟩
end Go.Proofs.Ytgjmnhbkdccgpaa
