/- The walk of merge.Lists, itself. -/
import Derived.Test.YtnfabofkfnmplaaLvN
import Derived.Deep.Cut
namespace Go.Proofs.Ytnfabofkfnmplaa
open Go.RowKit

theorem one_cu (A : Option Addr) (n c k : Nat) : ∀ u ∈ ([[Value.slice A n c, .int .i64 (k : Int)]] : List (List Value)).flatten, u.oneCell' = true := by
  intro u hu
  simp at hu
  rcases hu with rfl | rfl <;> rfl
theorem ERow.only' {w w' : World} {v : Value} {l : List L.En} {g : Nat} {cs : Array Value} (h : ERow w v l) (hb : Blk w g cs 50) (ho : Only g w w') : ERow w' v l := RowN.only h hb (by decide) ho
theorem row_set_below {B : Nat} {a w : World} {g : Nat} (h : Below B a w) (hB : B ≤ g) (k : Nat) (u : Value) : Below B a (w.setCell ⟨g, k, none⟩ u) := (Only.setCell w g k u).below h hB
theorem own_geL {n g m c : Nat} (h : (Value.slice (some ⟨g, 0, none⟩) m c).ownBlock = none ∨ ∃ k, n ≤ k ∧ (Value.slice (some ⟨g, 0, none⟩) m c).ownBlock = some k) : n ≤ g := by
  rcases h with e | ⟨k', h1, h2⟩
  · cases e
  · have h3 : some g = some k' := h2
    injection h3 with h3; omega
theorem range_below {w w' : World} {g o : Nat} {l : List Value} (hb : Below w.heap.size w w') (hg : g < w.heap.size) (h : w.rangeAt g o l) : w'.rangeAt g o l := fun j u hj => (hb.cell (p := ⟨g, o + j, none⟩) hg).trans (h j u hj)
set_option maxRecDepth 100000 in
set_option maxHeartbeats 8000000 in
theorem lists_any (vs : List Value) (ls : List (List L.En)) (v : Value) (dr : Bool) (w : World) (hv : SRead w v vs) (hr : ReadAll w vs ls) (hl : ls.length ≤ 1000) (htot : L.total ls ≤ 1000000) :
    Calls Try.prog 4 #[v, .bool dr] w fun e w' => ∃ v', e = .returned v' ∧ ERow w' v' (L.merge ls dr) ∧ (v'.ownBlock = none ∨ ∃ k, w.heap.size ≤ k ∧ v'.ownBlock = some k) ∧ Below w.heap.size w w' := by
  obtain ⟨A0, c0, rfl, hc0, hcell⟩ := hv
  obtain ⟨N, hN⟩ : ∃ N, N = vs.length := ⟨_, rfl⟩
  rw [← hN] at hc0 ⊢
  have hNl : N = ls.length := hN.trans hr.1
  have hN1000 : N ≤ 1000 := by omega
  replace hN := Lib.hid hN
  replace hNl := Lib.hid hNl
  have hM0 : L.merge ls dr = [] ++ L.mrg dr (L.total ls + 1) ls none := rfl
  generalize L.merge ls dr = R at *
  obtain ⟨i0, hi, hz0, hz1, hz2⟩ := info_parts info_cu.1
  go_enter Try.func4, Try.ntmps4
  go_wp2_with (at_make; refine wpList_make_own _ rfl (.const (.int .i64 0)) (.tmp 14) 48 rfl w.heap.size 50 i0 (.agg #[.slice none 0 0, .int .i64 0]) 2 Try.underlying48 hi hz0 hz1 .i64 .i64 _ N rfl rfl rfl (by rw [hz2]; omega) (by unfold maxLen; omega) (Nat.le_refl _) ?_; intro w1 own1 grown1; have r1 : CRow w1 (.slice (some ⟨w.heap.size, 0, none⟩) 0 N) [] := ⟨by simp, owns_zero own1⟩; have hB1 : Below w.heap.size w w1 := (Below.refl w.heap.size w).grown grown1 (Nat.le_refl _) (fun k e => by cases e))
  clear hi hz0 hz1 hz2 own1 grown1
  go_loopw [5, 18] (fun u i wr => ∃ k : Nat, k ≤ N ∧ i = .int .i64 (k : Int) ∧ CRow wr u (vs.take k) ∧ (u.ownBlock = none ∨ ∃ k, w.heap.size ≤ k ∧ u.ownBlock = some k) ∧ Below w.heap.size w wr) (fun _ i _ => N - (intOf i).toNat)
  case atStart => exact ⟨0, Nat.zero_le _, rfl, r1, .inr ⟨_, Nat.le_refl _, rfl⟩, hB1⟩
  case round =>
    clear r1 hB1
    obtain ⟨k, hk, rfl, hrow, hown, hB⟩ := hrel
    have q0 : (0 : Int) ≤ (k : Int) := by omega
    by_cases hlt : k < N
    · have d1 : decide ((k : Int) < (N : Int)) = true := decide_eq_true (by omega)
      have d1' : decide (k < N) = true := decide_eq_true hlt
      have q1 : (k : Int) < (N : Int) := by omega
      have hw1 : IntKind.i64.wrap ((k : Int) + 1) = ((k + 1 : Nat) : Int) := by rw [IntWalk.i64_in _ (by omega)]; omega
      have hkv : k < vs.length := by have := hN.out; omega
      obtain ⟨y, hy⟩ : ∃ y, vs[k]? = some y := ⟨_, List.getElem?_eq_getElem hkv⟩
      obtain ⟨l, hlk⟩ : ∃ l, ls[k]? = some l := ⟨_, List.getElem?_eq_getElem (by have := hNl.out; omega)⟩
      obtain ⟨Ay, cy, rfl, _⟩ := eread_open (hr.2 k y l hy hlk)
      obtain ⟨g, o, rfl, hg, hc⟩ : ∃ g o, A0 = some ⟨g, o, none⟩ ∧ g < w.heap.size ∧ ∀ j u, vs[j]? = some u → w.cell? ⟨g, o + j, none⟩ = some u := by
        rcases hcell with e | e
        · exfalso; rw [e] at hkv; simp at hkv
        · exact e
      have cY : wr.cell? ⟨g, o + k, none⟩ = some (.slice Ay l.length cy) := (hB.cell (p := ⟨g, o + k, none⟩) hg).trans (hc k _ hy)
      have hlm : ((vs.take k).zipIdx.map cuC).length + 1 ≤ 4398046511104 := by rw [List.length_map, List.length_zipIdx, List.length_take]; omega
      have hlm2 : (((vs.take k).zipIdx.map cuC).length + 1) * 32 ≤ 140737488355328 := by omega
      have htk := Lib.hid (show vs.take (k + 1) = vs.take k ++ [.slice Ay l.length cy] by
        obtain ⟨h1, h2⟩ := List.getElem?_eq_some_iff.1 hy
        rw [List.take_succ_eq_append_getElem h1, h2])
      have hlk2 := Lib.hid (show (vs.take k).length = k by rw [List.length_take]; omega)
      have hk1 := Lib.hid (show k + 1 ≤ N by omega)
      clear hc hg hy hlk hkv hcell hlm
      generalize l.length = ny at *
      go_wp2_with (at_builtin; refine wpList_append_rowN rfl info_cu (.tmp 23) (.tmp 27) 48 rfl Try.underlying48 rfl (RowN.alloc hrow _) ⟨wr.heap.size, 0, none⟩ 1 1 [[.slice Ay ny cy, .int .i64 (k : Int)]] rfl rfl (by simp) (new_cellsN wr _ _ rfl _) (one_cu _ _ _ _) hlm2 ?_; intro v3 w3 hrow3 hg3 hr3; have hBb := hB.alloc hB.size (.cells #[.slice Ay ny cy, .int .i64 (k : Int)] 50); have hB3 := below_grown_own hBb hBb.size hg3 hown; have hown3 := own_later hown hBb.size hr3)
      go_roundw
      case rel => exact ⟨k + 1, hk1.out, rfl, by rw [htk.out]; exact crow_snoc hlk2.out hrow3, hown3, hB3⟩
      case measure => simp [intOf]; have := hk1.out; omega
    · have d1 : decide ((k : Int) < (N : Int)) = false := decide_eq_false (by omega)
      have d1' : decide (k < N) = false := decide_eq_false hlt
      rw [List.take_of_length_le (by have := hN.out; omega)] at hrow
      obtain ⟨A, m, c, rfl, hm, hrow⟩ := crow_open hrow
      have hLE := Lib.hid (fun W vs' ls' (hc : CRow W (.slice A m c) vs') (hr' : ReadAll w vs' ls') (hb : Below w.heap.size w W) (hl' : ls'.length ≤ 1000) => least_any vs' ls' _ W hc (hr'.at_ hb) hl')
      have hl0 := Lib.hid hl
      have hownc := Lib.hid hown
      replace hm := Lib.hid hm
      clear hlt hl hcell
      go_wp2_with (go_at_call 11; refine (hLE.out _ vs ls hrow hr hB hl0.out).mono ?_; rintro e w4 ⟨rfl, s4⟩; have hrow4 := RowN.at_ hrow s4; have hB4 := hB.trans (s4.mono hB.size))
      clear s4 hrow hB d1 d1' q0 hown
      go_loopg [8, 9, 10, 11] (L.total ls + 1) (fun gg u s a i wr => ∃ (vs' : List Value) (ls' : List (List L.En)) (acc : List L.En) (last : Option (List UInt8)), s = .string ⟨(last.getD []).toArray⟩ ∧ a = .bool last.isSome ∧ i = .int .i64 (atV (L.lst ls')) ∧ Aside (L.total ls' < gg) ∧ Aside (L.total ls' + acc.length ≤ L.total ls) ∧ Aside (ls'.length = ls.length) ∧ Aside (R = acc ++ L.mrg dr (L.total ls' + 1) ls' last) ∧ Aside (ReadAll w vs' ls') ∧ ERow wr u acc ∧ (u.ownBlock = none ∨ ∃ k, w.heap.size ≤ k ∧ u.ownBlock = some k) ∧ CRow wr (.slice A m c) vs' ∧ Below w.heap.size w wr)
      case atStart => exact ⟨vs, ls, [], none, rfl, rfl, rfl, Nat.lt_succ_self _, Nat.le_refl _, rfl, hM0, hr, RowN.nil _ _ _, .inl rfl, hrow4, hB4⟩
      case round =>
        clear hrow4 hB4 hM0
        obtain ⟨vs', ls', acc, last, rfl, rfl, rfl, hgg, hacc, hlen, hR, hrd, hrowu, hownu, hrowc, hB⟩ := hrel
        cases hL : L.lst ls' with
        | none =>
          have hend := hR.out
          rw [L.mrg_end hL, List.append_nil] at hend
          replace hend := Lib.hid hend
          clear hR hrd hgg hacc hlen hrowc hL
          rw [show atV none = -1 from rfl]
          have z3 : decide ((0 : Int) ≤ -1) = false := rfl
          go_wp2
          go_ret
          exact ⟨_, rfl, by rw [hend.out]; exact hrowu, hownu, hB⟩
        | some ix =>
          obtain ⟨i, kx, vx, gx⟩ := ix
          obtain ⟨⟨t, ht⟩, -⟩ := L.lst_some hL
          have hil : i < ls'.length := (List.getElem?_eq_some_iff.1 ht).1
          have htt := L.total_tl ht
          rw [L.tl_eq ht] at htt
          have hst := hR.out
          rw [L.mrg_step hL ht] at hst
          dsimp only at hst
          obtain ⟨y, hy⟩ : ∃ y, vs'[i]? = some y := ⟨_, List.getElem?_eq_getElem (by rw [hrd.out.1]; exact hil)⟩
          obtain ⟨gc, rfl, hgc, cC⟩ := crow_get hrowc hy
          have hgcw := own_geL hownc.out
          have hey := hrd.out.2 i y _ hy ht
          obtain ⟨g1, o1, n1, c1, rfl, hn1, hg1, hrx, hnc⟩ := eread_head hey
          dsimp only [enC] at hrx
          obtain ⟨A', hsl, hrt⟩ := sl_tail (g := g1) (o := o1) (n := n1) (c := c1) (by omega) hnc
          have r0 : wr.cell? ⟨gc, i * 2, none⟩ = some (.slice (some ⟨g1, o1, none⟩) n1 c1) := cC 0 _ rfl
          have z0 : (0 : Int) ≤ (i : Int) := by omega
          have hml : m = ls.length := hm.out.trans (hN.out.symm.trans hNl.out)
          have z1 : (i : Int) < (m : Int) := by have := hlen.out; omega
          have z2 : (0 : Int) < (n1 : Int) := by omega
          have z3 : decide ((0 : Int) ≤ (i : Int)) = true := decide_eq_true z0
          have hr0 := range_below hB hg1 hrx
          have cX : wr.rangeAt g1 o1 [.string ⟨kx.toArray⟩, .string ⟨vx.toArray⟩, .bool gx] := hr0
          have hsz : (Try.prog.info? 26).map (·.size) = some [Value.string ⟨kx.toArray⟩, .string ⟨vx.toArray⟩, .bool gx].length := size_en
          have hfr := RowN.freeR (RowN.alloc hrowc (.cells #[.string ⟨kx.toArray⟩, .string ⟨vx.toArray⟩, .bool gx] 26)) (i * 2)
          have hne1 : ¬ wr.heap.size = gc := by omega
          have hne2 : ¬ gc = wr.heap.size := by omega
          have hsw : (wr.setCell ⟨gc, i * 2, none⟩ (.slice A' (n1 - 1) (c1 - 1))).heap.size = wr.heap.size := (Only.setCell wr gc (i * 2) _).size
          have X1 := Blk.new (wr.setCell ⟨gc, i * 2, none⟩ (.slice A' (n1 - 1) (c1 - 1))) #[.string ⟨kx.toArray⟩, .string ⟨vx.toArray⟩, .bool gx] 26
          rw [hsw] at X1
          have hrow2 := RowN.alloc (crow_set hrowc hy (.slice A' (n1 - 1) (c1 - 1))) (.cells #[.string ⟨kx.toArray⟩, .string ⟨vx.toArray⟩, .bool gx] 26)
          obtain ⟨cur, hblk⟩ := RowN.blk hrowc (g := gc) rfl
          have hru2 := (hrowu.only' hblk (Only.setCell wr gc (i * 2) (.slice A' (n1 - 1) (c1 - 1)))).alloc (.cells #[.string ⟨kx.toArray⟩, .string ⟨vx.toArray⟩, .bool gx] 26)
          have hB1 := row_set_below hB hgcw (i * 2) (.slice A' (n1 - 1) (c1 - 1))
          have hB2 := hB1.alloc hB1.size (.cells #[.string ⟨kx.toArray⟩, .string ⟨vx.toArray⟩, .bool gx] 26)
          have hrd2 := Lib.hid (hrd.out.set (i := i) (hrt w ⟨kx, vx, gx⟩ t hey))
          have hlen2 := Lib.hid (show (ls'.set i t).length = ls.length by rw [List.length_set]; exact hlen.out)
          have hlen3 := Lib.hid (show (ls'.set i t).length ≤ 1000 by rw [List.length_set, hlen.out]; exact hl0.out)
          have hgg2 := Lib.hid hgg.out
          have htt2 := Lib.hid (show L.total (ls'.set i t) < L.total ls' by omega)
          have hacc2 := Lib.hid (show L.total (ls'.set i t) + 1 + acc.length ≤ L.total ls by have := hacc.out; omega)
          replace hst := Lib.hid hst
          clear hR hrd hgg hacc hlen hL ht htt hil hn1 hnc hrx hr0 hey hrt cC hrowc hrowu hB hB1 hsw hy hblk hml
          rw [show atV (some (i, ⟨kx, vx, gx⟩)) = (i : Int) from rfl]
          generalize vs'.set i (.slice A' (n1 - 1) (c1 - 1)) = vs2 at *
          generalize ls'.set i t = ls2 at *
          go_upto_region 14 with (refine wpList_load_mid rfl 26 (.tmp 41) rfl g1 o1 rfl _ _ cX Try.underlying26 rfl hsz ?_; go_frame)
          refine wp_world fun W2 hW2 => ?_
          rw [← hW2] at X1 hrow2 hru2 hB2
          clear hW2 hsl hfr r0 z0 z1 z2 z3 cX hsz hne1 hne2 hg1
          obtain ⟨x0, x1, x2, -, -, -⟩ := free3 X1
          have hLE2 := Lib.hid (fun W hc hb => hLE.out W vs2 ls2 hc hrd2.out hb hlen3.out)
          cases last with
          | none =>
            have hst2 := hst.out
            rw [if_neg (by simp)] at hst2
            dsimp only [Option.isSome, Option.getD]
            by_cases hem : dr = false ∨ gx = false
            · rw [if_pos hem] at hst2
              have Hst := Lib.hid (show R = (acc ++ [(⟨kx, vx, gx⟩ : L.En)]) ++ L.mrg dr (L.total ls2 + 1) ls2 (some kx) by rw [hst2]; simp)
              have hlm : ((acc.map enC).length + 1) * 40 ≤ 140737488355328 := by rw [List.length_map]; have := hacc2.out; omega
              clear hst2 hst
              cases dr with
              | false =>
                clear hem
                have hru3 := RowN.alloc hru2 (.cells #[.string ⟨kx.toArray⟩, .string ⟨vx.toArray⟩, .bool gx] 26)
                have hrw3 := RowN.alloc hrow2 (.cells #[.string ⟨kx.toArray⟩, .string ⟨vx.toArray⟩, .bool gx] 26)
                have hne3 := RowN.ne_ hrw3 hru3 (by decide)
                have hBb := hB2.alloc hB2.size (.cells #[.string ⟨kx.toArray⟩, .string ⟨vx.toArray⟩, .bool gx] 26)
                have q2 := len_enC ⟨kx, vx, gx⟩
                have q3 := new_cellsN W2 (enC ⟨kx, vx, gx⟩) _ rfl 26
                have q4 := one_enC ⟨kx, vx, gx⟩
                go_wp2_with (first | (at_builtin; refine wpList_append_rowN rfl info_en (.tmp 69) (.tmp 71) 23 rfl und_en rfl hru3 ⟨W2.heap.size, 0, none⟩ 1 1 [enC ⟨kx, vx, gx⟩] rfl rfl q2 q3 q4 hlm ?_; intro v3 w3 hrow3 hg3 hr3; have hB3 := below_grown_own hBb hBb.size hg3 hownu; have hown3 := own_later hownu hBb.size hr3; have hrc3 := RowN.grown hrw3 hg3 hne3) | (go_at_call 11; refine (hLE2.out _ hrc3 hB3).mono ?_; rintro e w4 ⟨rfl, s4⟩))
                go_roundg (L.total ls')
                case measure => have := hgg2.out; omega
                case rel => exact ⟨vs2, ls2, acc ++ [(⟨kx, vx, gx⟩ : L.En)], some kx, by rfl, by rfl, by rfl, htt2.out, by (have := hacc2.out; show _ ≤ _; rw [List.length_append, List.length_singleton]; omega), hlen2.out, Hst.out, hrd2.out, (erow_snoc hrow3).at_ s4, hown3, RowN.at_ hrc3 s4, hB3.trans (s4.mono hB3.size)⟩
              | true =>
                have hxg : gx = false := by rcases hem with h | h; cases h; exact h
                subst hxg
                clear hem
                have hru3 := RowN.alloc hru2 (.cells #[.string ⟨kx.toArray⟩, .string ⟨vx.toArray⟩, .bool false] 26)
                have hrw3 := RowN.alloc hrow2 (.cells #[.string ⟨kx.toArray⟩, .string ⟨vx.toArray⟩, .bool false] 26)
                have hne3 := RowN.ne_ hrw3 hru3 (by decide)
                have hBb := hB2.alloc hB2.size (.cells #[.string ⟨kx.toArray⟩, .string ⟨vx.toArray⟩, .bool false] 26)
                have q2 := len_enC ⟨kx, vx, false⟩
                have q3 := new_cellsN W2 (enC ⟨kx, vx, false⟩) _ rfl 26
                have q4 := one_enC ⟨kx, vx, false⟩
                go_wp2_with (first | (at_builtin; refine wpList_append_rowN rfl info_en (.tmp 69) (.tmp 71) 23 rfl und_en rfl hru3 ⟨W2.heap.size, 0, none⟩ 1 1 [enC ⟨kx, vx, false⟩] rfl rfl q2 q3 q4 hlm ?_; intro v3 w3 hrow3 hg3 hr3; have hB3 := below_grown_own hBb hBb.size hg3 hownu; have hown3 := own_later hownu hBb.size hr3; have hrc3 := RowN.grown hrw3 hg3 hne3) | (go_at_call 11; refine (hLE2.out _ hrc3 hB3).mono ?_; rintro e w4 ⟨rfl, s4⟩))
                go_roundg (L.total ls')
                case measure => have := hgg2.out; omega
                case rel => exact ⟨vs2, ls2, acc ++ [(⟨kx, vx, false⟩ : L.En)], some kx, by rfl, by rfl, by rfl, htt2.out, by (have := hacc2.out; show _ ≤ _; rw [List.length_append, List.length_singleton]; omega), hlen2.out, Hst.out, hrd2.out, (erow_snoc hrow3).at_ s4, hown3, RowN.at_ hrc3 s4, hB3.trans (s4.mono hB3.size)⟩
            · rw [if_neg hem, List.nil_append] at hst2
              have Hst := Lib.hid hst2
              have hdt : dr = true := by cases dr with | true => rfl | false => exact absurd (.inl rfl) hem
              have hxg : gx = true := by cases h : gx with | true => rfl | false => exact absurd (.inr h) hem
              subst hxg
              subst hdt
              clear hst2 hst hem
              go_wp2_with (go_at_call 11; refine (hLE2.out _ hrow2 hB2).mono ?_; rintro e w4 ⟨rfl, s4⟩)
              go_roundg (L.total ls')
              case measure => have := hgg2.out; omega
              case rel => exact ⟨vs2, ls2, acc, some kx, by rfl, by rfl, by rfl, htt2.out, by (have := hacc2.out; show _ ≤ _; omega), hlen2.out, Hst.out, hrd2.out, hru2.at_ s4, hownu, RowN.at_ hrow2 s4, hB2.trans (s4.mono hB2.size)⟩
          | some q =>
            have hst2 := hst.out
            dsimp only [Option.isSome, Option.getD]
            by_cases hqk : kx = q
            · have e1 : (kx == q) = true := by rw [hqk]; simp
              rw [if_pos (by rw [hqk])] at hst2
              have Hst := Lib.hid hst2
              clear hst2 hst hqk
              go_wp2_with (go_at_call 11; refine (hLE2.out _ hrow2 hB2).mono ?_; rintro e w4 ⟨rfl, s4⟩)
              go_roundg (L.total ls')
              case measure => have := hgg2.out; omega
              case rel => exact ⟨vs2, ls2, acc, some q, by rfl, by rfl, by rfl, htt2.out, by (have := hacc2.out; show _ ≤ _; omega), hlen2.out, Hst.out, hrd2.out, hru2.at_ s4, hownu, RowN.at_ hrow2 s4, hB2.trans (s4.mono hB2.size)⟩
            · have e1 : (kx == q) = false := by rw [beq_eq_false_iff_ne]; exact hqk
              rw [if_neg (by intro h; injection h with h; exact hqk h.symm)] at hst2
              clear hqk
              by_cases hem : dr = false ∨ gx = false
              · rw [if_pos hem] at hst2
                have Hst := Lib.hid (show R = (acc ++ [(⟨kx, vx, gx⟩ : L.En)]) ++ L.mrg dr (L.total ls2 + 1) ls2 (some kx) by rw [hst2]; simp)
                have hlm : ((acc.map enC).length + 1) * 40 ≤ 140737488355328 := by rw [List.length_map]; have := hacc2.out; omega
                clear hst2 hst
                cases dr with
                | false =>
                  clear hem
                  have hru3 := RowN.alloc hru2 (.cells #[.string ⟨kx.toArray⟩, .string ⟨vx.toArray⟩, .bool gx] 26)
                  have hrw3 := RowN.alloc hrow2 (.cells #[.string ⟨kx.toArray⟩, .string ⟨vx.toArray⟩, .bool gx] 26)
                  have hne3 := RowN.ne_ hrw3 hru3 (by decide)
                  have hBb := hB2.alloc hB2.size (.cells #[.string ⟨kx.toArray⟩, .string ⟨vx.toArray⟩, .bool gx] 26)
                  have q2 := len_enC ⟨kx, vx, gx⟩
                  have q3 := new_cellsN W2 (enC ⟨kx, vx, gx⟩) _ rfl 26
                  have q4 := one_enC ⟨kx, vx, gx⟩
                  go_wp2_with (first | (at_builtin; refine wpList_append_rowN rfl info_en (.tmp 69) (.tmp 71) 23 rfl und_en rfl hru3 ⟨W2.heap.size, 0, none⟩ 1 1 [enC ⟨kx, vx, gx⟩] rfl rfl q2 q3 q4 hlm ?_; intro v3 w3 hrow3 hg3 hr3; have hB3 := below_grown_own hBb hBb.size hg3 hownu; have hown3 := own_later hownu hBb.size hr3; have hrc3 := RowN.grown hrw3 hg3 hne3) | (go_at_call 11; refine (hLE2.out _ hrc3 hB3).mono ?_; rintro e w4 ⟨rfl, s4⟩))
                  go_roundg (L.total ls')
                  case measure => have := hgg2.out; omega
                  case rel => exact ⟨vs2, ls2, acc ++ [(⟨kx, vx, gx⟩ : L.En)], some kx, by rfl, by rfl, by rfl, htt2.out, by (have := hacc2.out; show _ ≤ _; rw [List.length_append, List.length_singleton]; omega), hlen2.out, Hst.out, hrd2.out, (erow_snoc hrow3).at_ s4, hown3, RowN.at_ hrc3 s4, hB3.trans (s4.mono hB3.size)⟩
                | true =>
                  have hxg : gx = false := by rcases hem with h | h; cases h; exact h
                  subst hxg
                  clear hem
                  have hru3 := RowN.alloc hru2 (.cells #[.string ⟨kx.toArray⟩, .string ⟨vx.toArray⟩, .bool false] 26)
                  have hrw3 := RowN.alloc hrow2 (.cells #[.string ⟨kx.toArray⟩, .string ⟨vx.toArray⟩, .bool false] 26)
                  have hne3 := RowN.ne_ hrw3 hru3 (by decide)
                  have hBb := hB2.alloc hB2.size (.cells #[.string ⟨kx.toArray⟩, .string ⟨vx.toArray⟩, .bool false] 26)
                  have q2 := len_enC ⟨kx, vx, false⟩
                  have q3 := new_cellsN W2 (enC ⟨kx, vx, false⟩) _ rfl 26
                  have q4 := one_enC ⟨kx, vx, false⟩
                  go_wp2_with (first | (at_builtin; refine wpList_append_rowN rfl info_en (.tmp 69) (.tmp 71) 23 rfl und_en rfl hru3 ⟨W2.heap.size, 0, none⟩ 1 1 [enC ⟨kx, vx, false⟩] rfl rfl q2 q3 q4 hlm ?_; intro v3 w3 hrow3 hg3 hr3; have hB3 := below_grown_own hBb hBb.size hg3 hownu; have hown3 := own_later hownu hBb.size hr3; have hrc3 := RowN.grown hrw3 hg3 hne3) | (go_at_call 11; refine (hLE2.out _ hrc3 hB3).mono ?_; rintro e w4 ⟨rfl, s4⟩))
                  go_roundg (L.total ls')
                  case measure => have := hgg2.out; omega
                  case rel => exact ⟨vs2, ls2, acc ++ [(⟨kx, vx, false⟩ : L.En)], some kx, by rfl, by rfl, by rfl, htt2.out, by (have := hacc2.out; show _ ≤ _; rw [List.length_append, List.length_singleton]; omega), hlen2.out, Hst.out, hrd2.out, (erow_snoc hrow3).at_ s4, hown3, RowN.at_ hrc3 s4, hB3.trans (s4.mono hB3.size)⟩
              · rw [if_neg hem, List.nil_append] at hst2
                have Hst := Lib.hid hst2
                have hdt : dr = true := by cases dr with | true => rfl | false => exact absurd (.inl rfl) hem
                have hxg : gx = true := by cases h : gx with | true => rfl | false => exact absurd (.inr h) hem
                subst hxg
                subst hdt
                clear hst2 hst hem
                go_wp2_with (go_at_call 11; refine (hLE2.out _ hrow2 hB2).mono ?_; rintro e w4 ⟨rfl, s4⟩)
                go_roundg (L.total ls')
                case measure => have := hgg2.out; omega
                case rel => exact ⟨vs2, ls2, acc, some kx, by rfl, by rfl, by rfl, htt2.out, by (have := hacc2.out; show _ ≤ _; omega), hlen2.out, Hst.out, hrd2.out, hru2.at_ s4, hownu, RowN.at_ hrow2 s4, hB2.trans (s4.mono hB2.size)⟩
end Go.Proofs.Ytnfabofkfnmplaa
