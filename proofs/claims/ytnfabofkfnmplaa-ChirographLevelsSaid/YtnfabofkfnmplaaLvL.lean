/- The walk of level.Apply, at a state that is good, where what comes out is good. -/
import Derived.Test.YtnfabofkfnmplaaLvG
import Derived.Test.YtnfabofkfnmplaaLvU
namespace Go.Proofs.Ytnfabofkfnmplaa
open Go.RowKit

namespace L
def nxt (n : Nat) (fr : List Fi) : Nat := fr.foldl (fun n f => max n (f.num + 1)) n
/-- What Apply makes. -/
def applied (s : St) (gone : List Nat) (fresh : List Fi) (log : Nat) : St := ⟨nxt s.next fresh, log, isort (s.files.filter (fun f => !decide (f.num ∈ gone)) ++ fresh)⟩
theorem nxt_snoc {fr : List Fi} {k n : Nat} {f : Fi} (h : fr[k]? = some f) : nxt n (fr.take (k + 1)) = max (nxt n (fr.take k)) (f.num + 1) := by
  obtain ⟨h1, h2⟩ := List.getElem?_eq_some_iff.1 h
  rw [List.take_succ_eq_append_getElem h1, h2]
  unfold nxt
  rw [List.foldl_append]
  rfl
theorem take_snoc {α : Type} {l : List α} {k : Nat} {f : α} (h : l[k]? = some f) : l.take (k + 1) = l.take k ++ [f] := by
  obtain ⟨h1, h2⟩ := List.getElem?_eq_some_iff.1 h
  rw [List.take_succ_eq_append_getElem h1, h2]
theorem filter_snoc {α : Type} (p : α → Bool) {l : List α} {k : Nat} {f : α} (h : l[k]? = some f) : (l.take (k + 1)).filter p = (l.take k).filter p ++ if p f = true then [f] else [] := by
  rw [take_snoc h, List.filter_append, List.filter_cons, List.filter_nil]
end L
theorem enters15 : ∀ args w, (callFunc 15 args).run Try.prog w = .ok (.enter 15 args) w := by
  intro args w
  kernel_rfl
/-- A number of a slice that is read. -/
theorem sread_num {w : World} {A : Option Addr} {n c k y : Nat} {ns : List Nat} (h : SRead w (.slice A n c) (ns.map numV)) (hy : ns[k]? = some y) : ∃ g o, A = some ⟨g, o, none⟩ ∧ g < w.heap.size ∧ w.cell? ⟨g, o + k, none⟩ = some (.int .i64 (y : Int)) := by
  obtain ⟨A', c', e, _, h⟩ := h
  injection e with e1 _ _
  subst e1
  rcases h with h | ⟨g, o, h1, h2, h3⟩
  · have : ns = [] := by simpa using h
    rw [this] at hy; cases hy
  · exact ⟨g, o, h1, h2, h3 k (numV y) (by rw [List.getElem?_map, hy]; rfl)⟩
set_option maxRecDepth 100000 in
set_option maxHeartbeats 8000000 in
theorem apply_any (s : L.St) (sv gv fv : Value) (gone : List Nat) (fresh : List L.Fi) (log : Nat) (w : World) (h : FRead w sv s.files) (hg : SRead w gv (gone.map numV)) (hf : FRead w fv fresh) (hG : L.Good s) (hgl : gone.length ≤ 1000) (hgm : ∀ n ∈ gone, s.files.any (fun f => decide (f.num = n)) = true)
    (hfr : ∀ f ∈ fresh, f.num < 1073741824) (hl : s.files.length + fresh.length < 20) (hG2 : L.Good (L.applied s gone fresh log)) :
    Calls Try.prog 7 #[stV s sv, gv, fv, .int .i64 (log : Int)] w fun e w' => ∃ v', e = .returned (.tuple #[stV (L.applied s gone fresh log) v', .int .i64 0]) ∧ FRow w' v' (L.applied s gone fresh log).files ∧ Below w.heap.size w w' := by
  obtain ⟨S, sc, rfl, -, h⟩ := fread_open h
  obtain ⟨F, fc, rfl, -, hf⟩ := fread_open hf
  obtain ⟨A0, c0, rfl, hg⟩ := sread_form hg
  rw [List.length_map] at hg ⊢
  have CH := Lib.hid (fun W (hW : Below w.heap.size w W) => check_ok s _ W (h.at_ hW) hG)
  have CF := Lib.hid (fun W (hW : Below w.heap.size w W) g lb p eg hs => containsf_any s.files _ g lb p W (h.at_ hW) (by omega) eg hs)
  have FC := Lib.hid (fun W (hW : Below w.heap.size w W) x => contains_any gone _ x W (SRead.at_ hg hW) hgl)
  have hgm := Lib.hid hgm
  have hfr := Lib.hid hfr
  clear hG
  obtain ⟨nx, lg, l⟩ := s
  dsimp only at h hl CH CF hG2 hgm ⊢
  have hR : L.applied ⟨nx, lg, l⟩ gone fresh log = ⟨L.nxt nx fresh, log, L.isort (l.filter (fun f => !decide (f.num ∈ gone)) ++ fresh)⟩ := rfl
  rw [hR] at hG2 ⊢
  clear hR
  obtain ⟨A1, hA1⟩ : ∃ A, A = l.filter (fun f => !decide (f.num ∈ gone)) := ⟨_, rfl⟩
  rw [← hA1] at hG2 ⊢
  obtain ⟨R, hR⟩ : ∃ R, R = L.isort (A1 ++ fresh) := ⟨_, rfl⟩
  obtain ⟨nx2, hnx2⟩ : ∃ n, n = L.nxt nx fresh := ⟨_, rfl⟩
  rw [← hR, ← hnx2] at hG2 ⊢
  replace hA1 := Lib.hid hA1
  replace hR := Lib.hid hR
  replace hnx2 := Lib.hid hnx2
  replace hG2 := Lib.hid hG2
  unfold stV at *
  dsimp only at *
  obtain ⟨B0, B1, hB⟩ := two_new w #[.int .i64 (nx : Int), .int .i64 (lg : Int), .slice S l.length sc] #[.int .i64 0, .int .i64 0, .slice none 0 0] 29 29
  obtain ⟨x0, x1, x2, -, -, -⟩ := free3 B0
  go_enter Try.func7, Try.ntmps7
  go_upto_region 5 with (go_at_call 13; refine (CH.out _ hB).mono ?_; rintro e w2 ⟨rfl, hb2⟩; have B0a := B0.at_ hb2; have B1a := B1.at_ hb2; have hB2 := hB.trans (hb2.mono hB.size); obtain ⟨y0, y1, y2, -, -, -⟩ := free3 B0a; have X2 := Blk.new w2 #[.int .i64 (nx : Int), .int .i64 (log : Int), .slice none 0 0] 29; have B0b := B0a.alloc (.cells #[.int .i64 (nx : Int), .int .i64 (log : Int), .slice none 0 0] 29); have B1b := B1a.alloc (.cells #[.int .i64 (nx : Int), .int .i64 (log : Int), .slice none 0 0] 29); have hB3 := hB2.alloc hB2.size (.cells #[.int .i64 (nx : Int), .int .i64 (log : Int), .slice none 0 0] 29); have hg2 := B1a.lt)
  refine wp_world fun W3 hW3 => ?_
  rw [← hW3] at X2 B0b B1b hB3
  clear hW3 B0 B1 B0a B1a hB hB2 hb2 x0 x1 x2 y0 y1 y2 CH
  generalize w2.heap.size = g2 at *
  go_wp2
  go_loopw [31] (fun i wr => ∃ k : Nat, k ≤ gone.length ∧ i = .int .i64 (k : Int) ∧ Blk wr w.heap.size #[.int .i64 (nx : Int), .int .i64 (lg : Int), .slice S l.length sc] 29 ∧ Blk wr (w.heap.size + 1) #[.int .i64 0, .int .i64 0, .slice none 0 0] 29 ∧ Blk wr g2 #[.int .i64 (nx : Int), .int .i64 (log : Int), .slice none 0 0] 29 ∧ Below w.heap.size w wr) (fun i _ => gone.length - (intOf i).toNat)
  case atStart => exact ⟨0, Nat.zero_le _, rfl, B0b, B1b, X2, hB3⟩
  case round =>
    clear B0b B1b X2 hB3
    obtain ⟨k, hk, rfl, B0, B1, B2, hB⟩ := hrel
    have q0 : (0 : Int) ≤ (k : Int) := by omega
    by_cases hm : k < gone.length
    · have d1 : decide ((k : Int) < (gone.length : Int)) = true := decide_eq_true (by omega)
      have d1' : decide (k < gone.length) = true := decide_eq_true hm
      have q1 : (k : Int) < (gone.length : Int) := by omega
      have hw1 : IntKind.i64.wrap ((k : Int) + 1) = ((k + 1 : Nat) : Int) := by rw [IntWalk.i64_in _ (by omega)]; omega
      have hk1 := Lib.hid (show k + 1 ≤ gone.length by omega)
      obtain ⟨y, hy⟩ : ∃ y, gone[k]? = some y := ⟨_, List.getElem?_eq_getElem hm⟩
      obtain ⟨g, o, rfl, hgl', c1⟩ := sread_num (SRead.at_ hg hB) hy
      have hin := hgm.out y (List.mem_of_getElem? hy)
      have X1 := Blk.new wr #[.int .i64 (y : Int)] 3
      have B0a := B0.alloc (.cells #[.int .i64 (y : Int)] 3)
      have B1a := B1.alloc (.cells #[.int .i64 (y : Int)] 3)
      have B2a := B2.alloc (.cells #[.int .i64 (y : Int)] 3)
      have hB1 := hB.alloc hB.size (.cells #[.int .i64 (y : Int)] 3)
      obtain ⟨z0, z1, z2, -, -, -⟩ := free3 B0a
      have CC := CF.out _ hB1 15 _ (fun f => decide (f.num = y)) enters15 (clos_num y _ _ X1)
      rw [hin] at CC
      have CC := Lib.hid CC
      clear hin hy hgl' B0 B1 B2 hB
      go_wp2_with (go_at_call 14; refine CC.out.mono ?_; rintro e w5 ⟨rfl, hb5⟩)
      go_roundw
      case rel => exact ⟨k + 1, hk1.out, rfl, B0a.at_ hb5, B1a.at_ hb5, B2a.at_ hb5, hB1.trans (hb5.mono hB1.size)⟩
      case measure => simp [intOf]; have := hk1.out; omega
    · have d1 : decide ((k : Int) < (gone.length : Int)) = false := decide_eq_false (by omega)
      have d1' : decide (k < gone.length) = false := decide_eq_false hm
      obtain ⟨z0, z1, z2, -, -, -⟩ := free3 B0
      obtain ⟨N0, hN0⟩ : ∃ N0, wr.heap.size = N0 := ⟨_, rfl⟩
      have hlt0 := B0.lt
      have hlt1 := B1.lt
      have hlt2 := B2.lt
      rw [hN0] at hlt0 hlt1 hlt2
      have hN0 := Lib.hid (Nat.le_of_eq hN0.symm)
      clear hm hk q0
      go_wp2
      clear z0 z1 z2 d1 d1' CF
      go_loopw [45] (fun i wr => ∃ (k : Nat) (u : Value), k ≤ l.length ∧ i = .int .i64 (k : Int) ∧ FRow wr u ((l.take k).filter (fun f => !decide (f.num ∈ gone))) ∧ (u.ownBlock = none ∨ ∃ j, N0 ≤ j ∧ u.ownBlock = some j) ∧ Hid (N0 ≤ wr.heap.size) ∧ Blk wr (w.heap.size + 1) #[.int .i64 0, .int .i64 0, .slice none 0 0] 29 ∧ Blk wr g2 #[.int .i64 (nx : Int), .int .i64 (log : Int), u] 29 ∧ Below w.heap.size w wr) (fun i _ => l.length - (intOf i).toNat)
      case atStart => exact ⟨0, _, Nat.zero_le _, rfl, RowN.nil _ _ _, .inl rfl, hN0, B1, B2, hB⟩
      case round =>
        clear hN0 B0 B1 B2 hB
        obtain ⟨k, u, hk, rfl, hrow, hown, hN, B1, B2, hB⟩ := hrel
        have q0 : (0 : Int) ≤ (k : Int) := by omega
        by_cases hm : k < l.length
        · have d1 : decide ((k : Int) < (l.length : Int)) = true := decide_eq_true (by omega)
          have d1' : decide (k < l.length) = true := decide_eq_true hm
          have q1 : (k : Int) < (l.length : Int) := by omega
          have hw1 : IntKind.i64.wrap ((k : Int) + 1) = ((k + 1 : Nat) : Int) := by rw [IntWalk.i64_in _ (by omega)]; omega
          have hk1 := Lib.hid (show k + 1 ≤ l.length by omega)
          obtain ⟨f, hf0⟩ : ∃ f, l[k]? = some f := ⟨_, List.getElem?_eq_getElem hm⟩
          obtain ⟨g, o, rfl, hgl', cR⟩ := fread_at (h.at_ hB) hf0
          have htk0 := L.filter_snoc (fun f => !decide (f.num ∈ gone)) hf0
          have hxl : ((l.take k).filter (fun f => !decide (f.num ∈ gone))).length ≤ 1000 := by
            have := List.length_filter_le (fun f : L.Fi => !decide (f.num ∈ gone)) (l.take k)
            rw [List.length_take] at this
            omega
          generalize ((l.take k).filter (fun f => !decide (f.num ∈ gone))) = acc at *
          have cR' : wr.rangeAt g (o + k * 5) [.int .i64 (f.num : Int), .int .i64 (f.lev : Int), .int .i64 (f.size : Int), .string ⟨f.first.toArray⟩, .string ⟨f.last.toArray⟩] := cR
          have hsz : (Try.prog.info? 33).map (·.size) = some [Value.int .i64 (f.num : Int), .int .i64 (f.lev : Int), .int .i64 (f.size : Int), .string ⟨f.first.toArray⟩, .string ⟨f.last.toArray⟩].length := size_fi
          have hrow1 := FRow.alloc hrow (.cells #[.int .i64 (f.num : Int), .int .i64 (f.lev : Int), .int .i64 (f.size : Int), .string ⟨f.first.toArray⟩, .string ⟨f.last.toArray⟩] 33)
          have X1 := Blk.new wr #[.int .i64 (f.num : Int), .int .i64 (f.lev : Int), .int .i64 (f.size : Int), .string ⟨f.first.toArray⟩, .string ⟨f.last.toArray⟩] 33
          have B1a := B1.alloc (.cells #[.int .i64 (f.num : Int), .int .i64 (f.lev : Int), .int .i64 (f.size : Int), .string ⟨f.first.toArray⟩, .string ⟨f.last.toArray⟩] 33)
          have B2a := B2.alloc (.cells #[.int .i64 (f.num : Int), .int .i64 (f.lev : Int), .int .i64 (f.size : Int), .string ⟨f.first.toArray⟩, .string ⟨f.last.toArray⟩] 33)
          have hB1 := hB.alloc hB.size (.cells #[.int .i64 (f.num : Int), .int .i64 (f.lev : Int), .int .i64 (f.size : Int), .string ⟨f.first.toArray⟩, .string ⟨f.last.toArray⟩] 33)
          have hN1 : N0 ≤ (wr.alloc (.cells #[.int .i64 (f.num : Int), .int .i64 (f.lev : Int), .int .i64 (f.size : Int), .string ⟨f.first.toArray⟩, .string ⟨f.last.toArray⟩] 33)).heap.size := by rw [World.size_alloc]; exact Nat.le_succ_of_le hN.out
          clear cR hf0 hgl'
          go_upto_region 14 with (refine wpList_load_mid rfl 33 (.tmp 47) rfl g (o + k * 5) rfl _ _ cR' Try.underlying33 rfl hsz ?_; go_frame)
          refine wp_world fun W1 hW1 => ?_
          rw [← hW1] at hrow1 X1 B1a B2a hB1 hN1
          clear hW1 cR' hsz d1 d1' q1 hB B1 B2 hrow
          obtain ⟨⟨x0, x1, x2, x3, x4⟩, -⟩ := free5 X1
          have F1 := FC.out W1 hB1 f.num
          by_cases hi : f.num ∈ gone
          · rw [decide_eq_true hi] at F1
            rw [if_neg (by simp [hi]), List.append_nil] at htk0
            have F1 := Lib.hid F1
            have htk := Lib.hid htk0
            clear htk0 hi
            go_wp2_with (go_at_call 16; refine F1.out.mono ?_; rintro e w9 ⟨rfl, hw9⟩; replace hw9 := hw9.symm; subst hw9)
            go_roundw
            case rel => exact ⟨k + 1, u, hk1.out, rfl, by rw [htk.out]; exact hrow1, hown, Lib.hid hN1, B1a, B2a, hB1⟩
            case measure => simp [intOf]; have := hk1.out; omega
          · rw [decide_eq_false hi] at F1
            rw [if_pos (by simp [hi])] at htk0
            have F1 := Lib.hid F1
            have htk := Lib.hid htk0
            clear htk0 hi
            go_upto_region 15 with (go_at_call 16; refine F1.out.mono ?_; rintro e w9 ⟨rfl, hw9⟩; replace hw9 := hw9.symm; subst hw9)
            obtain ⟨z0, z1, z2, -, -, -⟩ := free3 B2a
            have r2 := RowN.alloc hrow1 (.cells #[.int .i64 (f.num : Int), .int .i64 (f.lev : Int), .int .i64 (f.size : Int), .string ⟨f.first.toArray⟩, .string ⟨f.last.toArray⟩] 33)
            have B1b := B1a.alloc (.cells #[.int .i64 (f.num : Int), .int .i64 (f.lev : Int), .int .i64 (f.size : Int), .string ⟨f.first.toArray⟩, .string ⟨f.last.toArray⟩] 33)
            have B2b := B2a.alloc (.cells #[.int .i64 (f.num : Int), .int .i64 (f.lev : Int), .int .i64 (f.size : Int), .string ⟨f.first.toArray⟩, .string ⟨f.last.toArray⟩] 33)
            have hB2 := hB1.alloc hB1.size (.cells #[.int .i64 (f.num : Int), .int .i64 (f.lev : Int), .int .i64 (f.size : Int), .string ⟨f.first.toArray⟩, .string ⟨f.last.toArray⟩] 33)
            have qx := new_cellsN W1 (fiC f) _ rfl 33
            have ox := one_fiC f
            have hN2 : N0 ≤ (W1.alloc (.cells #[.int .i64 (f.num : Int), .int .i64 (f.lev : Int), .int .i64 (f.size : Int), .string ⟨f.first.toArray⟩, .string ⟨f.last.toArray⟩] 33)).heap.size := by rw [World.size_alloc]; exact Nat.le_succ_of_le hN1
            have hlm : ((acc.map fiC).length + 1) * 56 ≤ 140737488355328 := by rw [List.length_map]; omega
            have n1 := not_own hown hlt1
            have n2 := not_own hown hlt2
            have hown2 := own_less (show w.heap.size ≤ N0 by omega) hown
            clear hrow1 B1a B2a hB1 hN1
            go_wp2_with (at_builtin; refine wpList_append_rowN rfl info_fi (.tmp 55) (.tmp 57) 27 rfl Try.underlying27 rfl r2 ⟨W1.heap.size, 0, none⟩ 1 1 [fiC f] rfl rfl (len_fiC _) qx ox hlm ?_; intro v3 w3 hrow3 hg9 hr3; obtain ⟨A5, m5, c5, rfl, -, hrow3⟩ := frow_open (frow_snoc hrow3); have hB3 := below_grown_own hB2 hB2.size hg9 hown2; have hown3 := own_later hown hN2 hr3; have B1c := B1b.grown hg9 n1; have B2c := B2b.grown hg9 n2; have hN3 := Nat.le_trans hN2 hg9.size; obtain ⟨y0, y1, y2, s0, s1, s2⟩ := free3 B2c; obtain ⟨B2d, o2⟩ := cell2_3 B2c (.slice A5 m5 c5); have B1d := B1c.only o2 (by omega); have hB4 := o2.below hB3 (by omega); have hrow4 := frow_only hrow3 B2c (by decide) o2; have hN4 : N0 ≤ (w3.setCell ⟨g2, 2, none⟩ (.slice A5 m5 c5)).heap.size := by (rw [o2.size]; exact hN3))
            go_roundw
            case rel => exact ⟨k + 1, .slice A5 m5 c5, hk1.out, rfl, by rw [htk.out]; exact hrow4, hown3, Lib.hid hN4, B1d, B2d, hB4⟩
            case measure => simp [intOf]; have := hk1.out; omega
        · have d1 : decide ((k : Int) < (l.length : Int)) = false := decide_eq_false (by omega)
          have d1' : decide (k < l.length) = false := decide_eq_false hm
          rw [List.take_of_length_le (by omega)] at hrow
          have hal : (l.filter (fun f => !decide (f.num ∈ gone))).length + fresh.length < 20 := by
            have := List.length_filter_le (fun f : L.Fi => !decide (f.num ∈ gone)) l
            omega
          rw [← hA1.out] at hal hrow
          clear hA1 hm hk q0 h FC hgm hg hl
          go_wp2
          clear d1 d1'
          go_loopw [63] (fun i wr => ∃ (k : Nat) (u : Value), k ≤ fresh.length ∧ i = .int .i64 (k : Int) ∧ FRow wr u (A1 ++ fresh.take k) ∧ (u.ownBlock = none ∨ ∃ j, N0 ≤ j ∧ u.ownBlock = some j) ∧ Hid (N0 ≤ wr.heap.size) ∧ Blk wr (w.heap.size + 1) #[.int .i64 0, .int .i64 0, .slice none 0 0] 29 ∧ Blk wr g2 #[.int .i64 (L.nxt nx (fresh.take k) : Int), .int .i64 (log : Int), u] 29 ∧ Below w.heap.size w wr) (fun i _ => fresh.length - (intOf i).toNat)
          case atStart => exact ⟨0, u, Nat.zero_le _, rfl, by rw [List.take_zero, List.append_nil]; exact hrow, hown, hN, B1, B2, hB⟩
          case round =>
            clear B1 B2 hB hN hrow hown
            obtain ⟨k, u, hk, rfl, hrow, hown, hN, B1, B2, hB⟩ := hrel
            have q0 : (0 : Int) ≤ (k : Int) := by omega
            by_cases hm : k < fresh.length
            · have d1 : decide ((k : Int) < (fresh.length : Int)) = true := decide_eq_true (by omega)
              have d1' : decide (k < fresh.length) = true := decide_eq_true hm
              have q1 : (k : Int) < (fresh.length : Int) := by omega
              have hw1 : IntKind.i64.wrap ((k : Int) + 1) = ((k + 1 : Nat) : Int) := by rw [IntWalk.i64_in _ (by omega)]; omega
              have hk1 := Lib.hid (show k + 1 ≤ fresh.length by omega)
              obtain ⟨f, hf0⟩ : ∃ f, fresh[k]? = some f := ⟨_, List.getElem?_eq_getElem hm⟩
              obtain ⟨g, o, rfl, hgl', cR⟩ := fread_at (hf.at_ hB) hf0
              have htk := Lib.hid (show A1 ++ fresh.take (k + 1) = (A1 ++ fresh.take k) ++ [f] by rw [L.take_snoc hf0, List.append_assoc])
              have hnx := Lib.hid (L.nxt_snoc (n := nx) hf0)
              have hfn := hfr.out f (List.mem_of_getElem? hf0)
              have hxl : (A1 ++ fresh.take k).length ≤ 1000 := by
                rw [List.length_append, List.length_take]
                omega
              generalize A1 ++ fresh.take k = acc at *
              generalize L.nxt nx (fresh.take k) = nk at *
              obtain ⟨fn1, hfn1⟩ : ∃ m, m = f.num + 1 := ⟨_, rfl⟩
              have hwf : IntKind.i64.wrap ((f.num : Int) + 1) = (fn1 : Int) := by rw [IntWalk.i64_in _ (by omega)]; omega
              rw [← hfn1] at hnx
              have hmx : max (nk : Int) (fn1 : Int) = ((L.nxt nx (fresh.take (k + 1)) : Nat) : Int) := by rw [hnx.out]; omega
              clear hnx hfn1
              obtain ⟨nk1, hnk1⟩ : ∃ n, n = L.nxt nx (fresh.take (k + 1)) := ⟨_, rfl⟩
              rw [← hnk1] at hmx
              replace hnk1 := Lib.hid hnk1
              have e1 : decide ((f.num : Int) < 0) = false := decide_eq_false (by omega)
              have e2 : decide ((1073741824 : Int) ≤ (f.num : Int)) = false := decide_eq_false (by omega)
              have e2' : decide (1073741824 ≤ f.num) = false := decide_eq_false (by omega)
              have cR' : wr.rangeAt g (o + k * 5) [.int .i64 (f.num : Int), .int .i64 (f.lev : Int), .int .i64 (f.size : Int), .string ⟨f.first.toArray⟩, .string ⟨f.last.toArray⟩] := cR
              have hsz : (Try.prog.info? 33).map (·.size) = some [Value.int .i64 (f.num : Int), .int .i64 (f.lev : Int), .int .i64 (f.size : Int), .string ⟨f.first.toArray⟩, .string ⟨f.last.toArray⟩].length := size_fi
              have hrow1 := FRow.alloc hrow (.cells #[.int .i64 (f.num : Int), .int .i64 (f.lev : Int), .int .i64 (f.size : Int), .string ⟨f.first.toArray⟩, .string ⟨f.last.toArray⟩] 33)
              have X1 := Blk.new wr #[.int .i64 (f.num : Int), .int .i64 (f.lev : Int), .int .i64 (f.size : Int), .string ⟨f.first.toArray⟩, .string ⟨f.last.toArray⟩] 33
              have B1a := B1.alloc (.cells #[.int .i64 (f.num : Int), .int .i64 (f.lev : Int), .int .i64 (f.size : Int), .string ⟨f.first.toArray⟩, .string ⟨f.last.toArray⟩] 33)
              have B2a := B2.alloc (.cells #[.int .i64 (f.num : Int), .int .i64 (f.lev : Int), .int .i64 (f.size : Int), .string ⟨f.first.toArray⟩, .string ⟨f.last.toArray⟩] 33)
              have hB1 := hB.alloc hB.size (.cells #[.int .i64 (f.num : Int), .int .i64 (f.lev : Int), .int .i64 (f.size : Int), .string ⟨f.first.toArray⟩, .string ⟨f.last.toArray⟩] 33)
              have hN1 : N0 ≤ (wr.alloc (.cells #[.int .i64 (f.num : Int), .int .i64 (f.lev : Int), .int .i64 (f.size : Int), .string ⟨f.first.toArray⟩, .string ⟨f.last.toArray⟩] 33)).heap.size := by rw [World.size_alloc]; exact Nat.le_succ_of_le hN.out
              have hx : some wr.heap.size ≠ u.ownBlock := fun e => by
                have := RowN.lt hrow e.symm
                omega
              have hxN : N0 ≤ wr.heap.size := hN.out
              clear cR hf0 hgl' hfn
              go_upto_region 20 with (refine wpList_load_mid rfl 33 (.tmp 65) rfl g (o + k * 5) rfl _ _ cR' Try.underlying33 rfl hsz ?_; go_frame)
              refine wp_world fun W1 hW1 => ?_
              rw [← hW1] at hrow1 X1 B1a B2a hB1 hN1
              clear hW1 cR' hsz d1 d1' q1 hB B1 B2 hrow
              generalize wr.heap.size = gx at *
              obtain ⟨⟨x0, x1, x2, x3, x4⟩, -⟩ := free5 X1
              go_upto_region 22 with (fail)
              clear e1 e2 e2'
              have X1b := X1.alloc (.cells #[.int .i64 (f.num : Int), .int .i64 (f.lev : Int), .int .i64 (f.size : Int), .string ⟨f.first.toArray⟩, .string ⟨f.last.toArray⟩] 33)
              obtain ⟨z0, z1, z2, -, -, -⟩ := free3 B2a
              have r2 := RowN.alloc hrow1 (.cells #[.int .i64 (f.num : Int), .int .i64 (f.lev : Int), .int .i64 (f.size : Int), .string ⟨f.first.toArray⟩, .string ⟨f.last.toArray⟩] 33)
              have B1b := B1a.alloc (.cells #[.int .i64 (f.num : Int), .int .i64 (f.lev : Int), .int .i64 (f.size : Int), .string ⟨f.first.toArray⟩, .string ⟨f.last.toArray⟩] 33)
              have B2b := B2a.alloc (.cells #[.int .i64 (f.num : Int), .int .i64 (f.lev : Int), .int .i64 (f.size : Int), .string ⟨f.first.toArray⟩, .string ⟨f.last.toArray⟩] 33)
              have hB2 := hB1.alloc hB1.size (.cells #[.int .i64 (f.num : Int), .int .i64 (f.lev : Int), .int .i64 (f.size : Int), .string ⟨f.first.toArray⟩, .string ⟨f.last.toArray⟩] 33)
              have qx := new_cellsN W1 (fiC f) _ rfl 33
              have ox := one_fiC f
              have hN2 : N0 ≤ (W1.alloc (.cells #[.int .i64 (f.num : Int), .int .i64 (f.lev : Int), .int .i64 (f.size : Int), .string ⟨f.first.toArray⟩, .string ⟨f.last.toArray⟩] 33)).heap.size := by rw [World.size_alloc]; exact Nat.le_succ_of_le hN1
              have hlm : ((acc.map fiC).length + 1) * 56 ≤ 140737488355328 := by rw [List.length_map]; omega
              have n1 := not_own hown hlt1
              have n2 := not_own hown hlt2
              have hown2 := own_less (show w.heap.size ≤ N0 by omega) hown
              clear hrow1 B1a B2a hB1 hN1
              go_upto_region 23 with (at_builtin; refine wpList_append_rowN rfl info_fi (.tmp 77) (.tmp 79) 27 rfl Try.underlying27 rfl r2 ⟨W1.heap.size, 0, none⟩ 1 1 [fiC f] rfl rfl (len_fiC _) qx ox hlm ?_; intro v3 w3 hrow3 hg9 hr3; obtain ⟨A5, m5, c5, rfl, -, hrow3⟩ := frow_open (frow_snoc hrow3); have hB3 := below_grown_own hB2 hB2.size hg9 hown2; have hown3 := own_later hown hN2 hr3; have B1c := B1b.grown hg9 n1; have B2c := B2b.grown hg9 n2; have hN3 := Nat.le_trans hN2 hg9.size; obtain ⟨y0, y1, y2, s0, s1, s2⟩ := free3 B2c; obtain ⟨B2d, o2⟩ := cell2_3 B2c (.slice A5 m5 c5); have B1d := B1c.only o2 (by omega); have hB4 := o2.below hB3 (by omega); have hrow4 := frow_only hrow3 B2c (by decide) o2; have hN4 : N0 ≤ (w3.setCell ⟨g2, 2, none⟩ (.slice A5 m5 c5)).heap.size := by (rw [o2.size]; exact hN3))
              have X1d := (X1b.grown hg9 hx).only o2 (by omega)
              refine wp_world fun W4 hW4 => ?_
              rw [← hW4] at B2d B1d hB4 hrow4 hN4 X1d
              clear hW4 y0 y1 y2 s0 s1 s2 x0 x1 x2 x3 x4 z0 z1 z2 hx X1 X1b o2 hrow3 B1c B2c B1b B2b r2
              obtain ⟨⟨x0, x1, x2, x3, x4⟩, -⟩ := free5 X1d
              obtain ⟨z0, z1, z2, s0, -, -⟩ := free3 B2d
              obtain ⟨B2e, o3⟩ := cell0_3 B2d (.int .i64 (nk1 : Int))
              have B1e := B1d.only o3 (by omega)
              have hB5 := o3.below hB4 (by omega)
              have hrow5 := frow_only hrow4 B2d (by decide) o3
              have hN5 : N0 ≤ (W4.setCell ⟨g2, 0, none⟩ (.int .i64 (nk1 : Int))).heap.size := by (rw [o3.size]; exact hN4)
              go_wp2
              go_roundw
              case rel => exact ⟨k + 1, .slice A5 m5 c5, hk1.out, rfl, by rw [htk.out]; exact hrow5, hown3, Lib.hid hN5, B1e, by rw [← hnk1.out]; exact B2e, hB5⟩
              case measure => simp [intOf]; have := hk1.out; omega
            · have d1 : decide ((k : Int) < (fresh.length : Int)) = false := decide_eq_false (by omega)
              have d1' : decide (k < fresh.length) = false := decide_eq_false hm
              rw [List.take_of_length_le (by omega)] at hrow B2
              obtain ⟨A5, m5, c5, rfl, -, hrow⟩ := frow_open hrow
              rw [← List.length_append] at hal
              have SO := sort_any _ _ _ hrow hal
              rw [← hR.out] at SO
              have SO := Lib.hid SO
              have CK := Lib.hid (fun W hr => check_ok ⟨nx2, log, R⟩ (.slice A5 m5 c5) W hr hG2.out)
              unfold stV at CK
              dsimp only at CK
              rw [← hnx2.out] at B2
              generalize A1 ++ fresh = R0 at *
              have hg2w : w.heap.size ≤ g2 := by omega
              have n1 := not_own hown hlt1
              have n2 := not_own hown hlt2
              have hown2 := own_less (show w.heap.size ≤ N0 by omega) hown
              obtain ⟨z0, z1, z2, -, -, -⟩ := free3 B2
              clear hal hm hk hrow hN hown hfr hf
              go_upto_region 26 with (go_at_call 17; refine SO.out.mono ?_; rintro e w5 ⟨rfl, hr5, hg5⟩; have B1a := B1.grown hg5 n1; have B2a := B2.grown hg5 n2; have hB5 := below_grown_own hB hB.size hg5 hown2; obtain ⟨y0, y1, y2, -, -, -⟩ := free3 B2a)
              clear B1 B2 hB hg5 SO z0 z1 z2 n1 n2 hown2
              go_wp2_with (go_at_call 13; refine (CK.out _ hr5.reads).mono ?_; rintro e w6 ⟨rfl, hb6⟩; have B1b := B1a.at_ hb6; have B2b := B2a.at_ hb6; have hr6 := FRow.at_ hr5 hb6; have hB6 := hB5.trans (hb6.mono hB5.size); obtain ⟨x0, x1, x2, -, -, -⟩ := free3 B2b; obtain ⟨t0, t1, t2, s0, s1, s2⟩ := free3 B1b; obtain ⟨b1, o1⟩ := put3 B1b (.int .i64 (nx2 : Int)) (.int .i64 (log : Int)) (.slice A5 m5 c5) _ rfl; have hr7 := frow_only hr6 B1b (by decide) o1; have hB7 := o1.below hB6 (by omega))
              exact bodyPost_ret (v := .tuple #[.agg #[.int .i64 (nx2 : Int), .int .i64 (log : Int), .slice A5 m5 c5], .int .i64 0]) (results_blk2 (by rfl) _ b1 _ _ (by rfl) (by rfl) Try.underlying29 (by rfl) (by kernel_rfl)) rfl ⟨_, rfl, hr7, hB7⟩
end Go.Proofs.Ytnfabofkfnmplaa
