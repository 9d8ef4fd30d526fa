/- The walk of the document's Put. -/
import Derived.Test.YtnfabofkfnmplaaLvK
import Derived.Deep.Cut
namespace Go.Proofs.Ytnfabofkfnmplaa
open Go.RowKit

namespace L
def putGo (x : En) : Bool → List En → List En
  | d, [] => if d = true then [] else [x]
  | d, y :: r => (if d = false ∧ B y.key x.key = false then [x] else []) ++ ((if y.key = x.key then [] else [y]) ++ putGo x (d || !B y.key x.key) r)
theorem putGo_true (x : En) : ∀ (l : List En), (∀ z ∈ l, z.key ≠ x.key) → putGo x true l = l
  | [], _ => rfl
  | y :: r, h => by
    unfold putGo
    rw [if_neg (by simp), if_neg (h y List.mem_cons_self), Bool.true_or, putGo_true x r fun z hz => h z (List.mem_cons_of_mem _ hz)]
    rfl
theorem putGo_put (x : En) : ∀ (l : List En), Up l → putGo x false l = put x l
  | [], _ => rfl
  | y :: r, h => by
    obtain ⟨h1, h2⟩ := List.pairwise_cons.1 h
    unfold putGo put
    cases hb : B y.key x.key with
    | true =>
      rw [if_neg (by simp), if_neg (B_ne hb), if_pos rfl]
      show [] ++ ([y] ++ putGo x (false || !true) r) = _
      rw [show (false || !true) = false from rfl, putGo_put x r h2]
      rfl
    | false =>
      rw [if_pos (⟨rfl, rfl⟩ : false = false ∧ false = false), if_neg Bool.false_ne_true]
      rw [show (false || !false) = true from rfl]
      by_cases e : y.key = x.key
      · rw [if_pos e, if_pos e, putGo_true x r fun z hz q => by have := h1 z hz; rw [q, e, B_irr] at this; cases this]
        rfl
      · have hxy := B_nl hb e
        rw [if_neg e, if_neg e, putGo_true x r fun z hz q => by have := B_tr hxy (h1 z hz); rw [q, B_irr] at this; cases this]
        rfl
end L
set_option maxRecDepth 100000 in
set_option maxHeartbeats 8000000 in
theorem put_any (l : List L.En) (v : Value) (kx vx : List UInt8) (gx : Bool) (w : World) (h : ERead w v l) (hl : l.length ≤ 100000) :
    Calls Try.prog 6 #[v, .agg #[.string ⟨kx.toArray⟩, .string ⟨vx.toArray⟩, .bool gx]] w fun e w' => ∃ v', e = .returned v' ∧ ERow w' v' (L.putGo ⟨kx, vx, gx⟩ false l) ∧ (v'.ownBlock = none ∨ ∃ k, w.heap.size ≤ k ∧ v'.ownBlock = some k) ∧ Below w.heap.size w w' := by
  obtain ⟨A, c, rfl, hcap, h⟩ := eread_open h
  obtain ⟨W0, hW0⟩ : ∃ W, W = w.alloc (.cells #[.string ⟨kx.toArray⟩, .string ⟨vx.toArray⟩, .bool gx] 26) := ⟨_, rfl⟩
  have hB0 := below_alloc1 w (.cells #[.string ⟨kx.toArray⟩, .string ⟨vx.toArray⟩, .bool gx] 26)
  have X0 := Blk.new w #[.string ⟨kx.toArray⟩, .string ⟨vx.toArray⟩, .bool gx] 26
  have hs0 : W0.heap.size = w.heap.size + 1 := by rw [hW0, World.size_alloc]
  rw [← hW0] at hB0 X0
  have r0 : ERow (W0.alloc (.cells #[] 26)) (.slice (some ⟨W0.heap.size, 0, none⟩) 0 0) [] := RowN.build W0 _ 3 [] #[] 0 rfl (by simp) rfl (by omega)
  have hb0 := below_alloc1 W0 (.cells #[] 26)
  rw [hs0] at r0
  have hgo0 : L.putGo ⟨kx, vx, gx⟩ false l = [] ++ L.putGo ⟨kx, vx, gx⟩ false (l.drop 0) := rfl
  generalize hR : L.putGo ⟨kx, vx, gx⟩ false l = R at *
  clear hR
  have hW0' := Lib.hid hW0
  go_enter Try.func6, Try.ntmps6
  go_wp2
  rw [← hW0]
  clear hW0
  go_loopw [5, 6, 12] (fun u dn i wr => ∃ (k : Nat) (acc : List L.En) (d : Bool), k ≤ l.length ∧ acc.length ≤ k + 1 ∧ i = .int .i64 (k : Int) ∧ dn = .bool d ∧ Hid (acc.length ≤ k + d.toNat) ∧ Hid (R = acc ++ L.putGo ⟨kx, vx, gx⟩ d (l.drop k)) ∧ ERow wr u acc ∧ (u.ownBlock = none ∨ ∃ k, W0.heap.size ≤ k ∧ u.ownBlock = some k) ∧ Below W0.heap.size W0 wr) (fun _ _ i _ => l.length - (intOf i).toNat)
  case atStart => exact ⟨0, [], false, Nat.zero_le _, by simp, rfl, rfl, Lib.hid (by simp), Lib.hid hgo0, r0, .inr ⟨_, Nat.le_of_eq hs0, rfl⟩, hb0⟩
  case round =>
    clear r0 hb0 hgo0
    obtain ⟨k, acc, d, hk, hacc, rfl, rfl, hcnt, hgo, hrow, hown, hB⟩ := hrel
    have q0 : (0 : Int) ≤ (k : Int) := by omega
    have hBw : Below w.heap.size w wr := hB0.trans (hB.mono hB0.size)
    by_cases hm : k < l.length
    · have d1 : decide ((k : Int) < (l.length : Int)) = true := decide_eq_true (by omega)
      have d1' : decide (k < l.length) = true := decide_eq_true hm
      have q1 : (k : Int) < (l.length : Int) := by omega
      have hw1 : IntKind.i64.wrap ((k : Int) + 1) = ((k + 1 : Nat) : Int) := by rw [IntWalk.i64_in _ (by omega)]; omega
      obtain ⟨y, hy⟩ : ∃ f, l[k]? = some f := ⟨_, List.getElem?_eq_getElem hm⟩
      obtain ⟨g, o, rfl, hg, cR⟩ := eread_at (h.at_ hBw) hy
      have hdr : l.drop k = y :: l.drop (k + 1) := by
        obtain ⟨h1, rfl⟩ := List.getElem?_eq_some_iff.1 hy
        exact List.drop_eq_getElem_cons h1
      have hgo2 := hgo.out
      rw [hdr] at hgo2
      obtain ⟨ky, vy, gy⟩ := y
      have hgo3 : R = acc ++ ((if d = false ∧ L.B ky kx = false then [(⟨kx, vx, gx⟩ : L.En)] else []) ++ ((if ky = kx then [] else [(⟨ky, vy, gy⟩ : L.En)]) ++ L.putGo ⟨kx, vx, gx⟩ (d || !L.B ky kx) (l.drop (k + 1)))) := hgo2
      have cR' : wr.rangeAt g (o + k * 3) [.string ⟨ky.toArray⟩, .string ⟨vy.toArray⟩, .bool gy] := cR
      have hsz : (Try.prog.info? 26).map (·.size) = some [Value.string ⟨ky.toArray⟩, .string ⟨vy.toArray⟩, .bool gy].length := size_en
      have hrow1 := hrow.alloc (.cells #[.string ⟨ky.toArray⟩, .string ⟨vy.toArray⟩, .bool gy] 26)
      have Y1 := Blk.new wr #[.string ⟨ky.toArray⟩, .string ⟨vy.toArray⟩, .bool gy] 26
      have hB1 := hB.alloc hB.size (.cells #[.string ⟨ky.toArray⟩, .string ⟨vy.toArray⟩, .bool gy] 26)
      have hny := Lib.hid (fun e => absurd (RowN.lt hrow e) (Nat.lt_irrefl _) : ¬ _ = some wr.heap.size)
      have hk1 := Lib.hid (show k + 1 ≤ l.length by omega)
      have hcnt1 : acc.length ≤ 100000 := by have h1 := hcnt.out; have := Bool.toNat_le d; omega
      clear hgo hgo2 hdr cR hg hy
      go_upto_region 6 with (refine wpList_load_mid rfl 26 (.tmp 14) rfl g (o + k * 3) rfl _ _ cR' Try.underlying26 rfl hsz ?_; go_frame)
      refine wp_world fun W1 hW1 => ?_
      rw [← hW1] at hrow1 Y1 hB1
      clear hW1 cR' hsz d1 d1' q1 hB hBw hrow
      obtain ⟨y0, y1, y2, -, -, -⟩ := free3 Y1
      obtain ⟨x0, x1, x2, -, -, -⟩ := free3 (X0.below hB1 (by omega))
      have sg := str_geq ky kx
      have ex := RowN.alloc hrow1 (.cells #[.string ⟨kx.toArray⟩, .string ⟨vx.toArray⟩, .bool gx] 26)
      have ey := RowN.alloc hrow1 (.cells #[.string ⟨ky.toArray⟩, .string ⟨vy.toArray⟩, .bool gy] 26)
      have hBx := hB1.alloc hB1.size (.cells #[.string ⟨kx.toArray⟩, .string ⟨vx.toArray⟩, .bool gx] 26)
      have hBy := hB1.alloc hB1.size (.cells #[.string ⟨ky.toArray⟩, .string ⟨vy.toArray⟩, .bool gy] 26)
      have qx := new_cellsN W1 (enC ⟨kx, vx, gx⟩) _ rfl 26
      have qy := new_cellsN W1 (enC ⟨ky, vy, gy⟩) _ rfl 26
      have ox := one_enC ⟨kx, vx, gx⟩
      have oy := one_enC ⟨ky, vy, gy⟩
      have hlm : ((acc.map enC).length + 1) * 40 ≤ 140737488355328 := by (rw [List.length_map]; exact Nat.le_trans (Nat.mul_le_mul_right 40 (Nat.succ_le_succ hcnt1)) (by decide))
      have hlm2 : ((acc.map enC ++ [enC ⟨kx, vx, gx⟩]).length + 1) * 40 ≤ 140737488355328 := by (rw [List.length_append, List.length_map, List.length_singleton]; exact Nat.le_trans (Nat.mul_le_mul_right 40 (Nat.succ_le_succ (Nat.succ_le_succ hcnt1))) (by decide))
      have hYx := Y1.alloc (.cells #[.string ⟨kx.toArray⟩, .string ⟨vx.toArray⟩, .bool gx] 26)
      have hX0 := Lib.hid X0
      have hlt0 : w.heap.size < W0.heap.size := by omega
      by_cases hins : d = false ∧ L.B ky kx = false
      · obtain ⟨rfl, hbf⟩ := hins
        rw [hbf] at hgo3
        simp only [hbf] at sg
        rw [if_pos ⟨rfl, rfl⟩] at hgo3
        by_cases he : ky = kx
        · have e1 : (ky == kx) = true := by simp [he]
          rw [if_pos he] at hgo3
          have Hgo := Lib.hid (show R = (acc ++ [(⟨kx, vx, gx⟩ : L.En)]) ++ L.putGo ⟨kx, vx, gx⟩ true (l.drop (k + 1)) by rw [hgo3]; simp)
          clear hgo3 he hbf
          go_wp2_with (at_builtin; refine wpList_append_rowN rfl info_en (.tmp 25) (.tmp 27) 23 rfl und_en rfl ex ⟨W1.heap.size, 0, none⟩ 1 1 [enC ⟨kx, vx, gx⟩] rfl rfl (len_enC _) qx ox hlm ?_; intro v3 w3 hrow3 hg3 hr3; have hB3 := below_grown_own hBx hBx.size hg3 hown; have hown3 := own_later hown hBx.size hr3; obtain ⟨z0, z1, z2, -, -, -⟩ := free3 (hYx.grown hg3 (fun e => hny.out e.symm)); obtain ⟨t0, t1, t2, -, -, -⟩ := free3 (hX0.out.below hB3 hlt0))
          go_roundw
          case rel => exact ⟨k + 1, acc ++ [(⟨kx, vx, gx⟩ : L.En)], true, hk1.out, by rw [List.length_append, List.length_singleton]; omega, rfl, rfl, Lib.hid (by have := hcnt.out; rw [List.length_append, List.length_singleton]; simp at this ⊢; omega), Hgo, erow_snoc hrow3, hown3, hB3⟩
          case measure => simp [intOf]; have := hk1.out; omega
        · have e1 : (ky == kx) = false := by simp [he]
          rw [if_neg he] at hgo3
          have Hgo := Lib.hid (show R = (acc ++ [(⟨kx, vx, gx⟩ : L.En)] ++ [(⟨ky, vy, gy⟩ : L.En)]) ++ L.putGo ⟨kx, vx, gx⟩ true (l.drop (k + 1)) by rw [hgo3]; simp)
          clear hgo3 he hbf
          go_wp2_with (first | ((at_builtin; refine wpList_append_rowN rfl info_en (.tmp 25) (.tmp 27) 23 rfl und_en rfl ex ⟨W1.heap.size, 0, none⟩ 1 1 [enC ⟨kx, vx, gx⟩] rfl rfl (len_enC _) qx ox hlm ?_; intro v3 w3 hrow3 hg3 hr3; have hB3 := below_grown_own hBx hBx.size hg3 hown; have hown3 := own_later hown hBx.size hr3; obtain ⟨z0, z1, z2, -, -, -⟩ := free3 (hYx.grown hg3 (fun e => hny.out e.symm)); obtain ⟨t0, t1, t2, -, -, -⟩ := free3 (hX0.out.below hB3 hlt0)); have ey3 := RowN.alloc hrow3 (.cells #[.string ⟨ky.toArray⟩, .string ⟨vy.toArray⟩, .bool gy] 26); have qy3 := new_cellsN w3 (enC ⟨ky, vy, gy⟩) _ rfl 26; have hBy3 := hB3.alloc hB3.size (.cells #[.string ⟨ky.toArray⟩, .string ⟨vy.toArray⟩, .bool gy] 26)) | (at_builtin; refine wpList_append_rowN rfl info_en (.tmp 34) (.tmp 36) 23 rfl und_en rfl ey3 ⟨w3.heap.size, 0, none⟩ 1 1 [enC ⟨ky, vy, gy⟩] rfl rfl (len_enC _) qy3 oy hlm2 ?_; intro v5 w5 hrow5 hg5 hr5; have hB5 := below_grown_own hBy3 hBy3.size hg5 hown3; have hown5 := own_later hown3 hBy3.size hr5))
          go_roundw
          case rel => exact ⟨k + 1, acc ++ [(⟨kx, vx, gx⟩ : L.En)] ++ [(⟨ky, vy, gy⟩ : L.En)], true, hk1.out, by (have := hcnt.out; rw [List.length_append, List.length_append, List.length_singleton, List.length_singleton]; simp at this; omega), rfl, rfl, Lib.hid (by have := hcnt.out; rw [List.length_append, List.length_append, List.length_singleton, List.length_singleton]; simp at this ⊢; omega), Hgo, erow_snoc (by rw [List.map_append]; exact hrow5), hown5, hB5⟩
          case measure => simp [intOf]; have := hk1.out; omega
      · have hd9 : (d || !L.B ky kx) = d := by
          cases d with
          | true => rfl
          | false =>
            have : L.B ky kx = true := by
              cases hb : L.B ky kx with
              | true => rfl
              | false => exact absurd ⟨rfl, hb⟩ hins
            rw [this]; rfl
        have hsgf : d = false → L.B ky kx = true := fun hd => by
          cases hb : L.B ky kx with
          | true => rfl
          | false => exact absurd ⟨hd, hb⟩ hins
        rw [if_neg hins, List.nil_append, hd9] at hgo3
        have hdn := Bool.toNat_le d
        by_cases he : ky = kx
        · have e1 : (ky == kx) = true := by simp [he]
          rw [if_pos he, List.nil_append] at hgo3
          have Hgo := Lib.hid hgo3
          clear hgo3 he hins hd9
          cases d with
          | true =>
            clear hsgf
            go_wp2
            go_roundw
            case rel => exact ⟨k + 1, acc, true, hk1.out, by omega, rfl, rfl, Lib.hid (by have := hcnt.out; omega), Hgo, hrow1, hown, hB1⟩
            case measure => simp [intOf]; have := hk1.out; omega
          | false =>
            simp only [hsgf rfl] at sg
            clear hsgf
            go_wp2
            go_roundw
            case rel => exact ⟨k + 1, acc, false, hk1.out, by omega, rfl, rfl, Lib.hid (by have := hcnt.out; omega), Hgo, hrow1, hown, hB1⟩
            case measure => simp [intOf]; have := hk1.out; omega
        · have e1 : (ky == kx) = false := by simp [he]
          rw [if_neg he] at hgo3
          have Hgo := Lib.hid (show R = (acc ++ [(⟨ky, vy, gy⟩ : L.En)]) ++ L.putGo ⟨kx, vx, gx⟩ d (l.drop (k + 1)) by rw [hgo3]; simp)
          clear hgo3 he hins hd9
          cases d with
          | true =>
            clear hsgf
            go_wp2_with (at_builtin; refine wpList_append_rowN rfl info_en (.tmp 34) (.tmp 36) 23 rfl und_en rfl ey ⟨W1.heap.size, 0, none⟩ 1 1 [enC ⟨ky, vy, gy⟩] rfl rfl (len_enC _) qy oy hlm ?_; intro v3 w3 hrow3 hg3 hr3; have hB3 := below_grown_own hBy hBy.size hg3 hown; have hown3 := own_later hown hBy.size hr3)
            go_roundw
            case rel => exact ⟨k + 1, acc ++ [(⟨ky, vy, gy⟩ : L.En)], true, hk1.out, by rw [List.length_append, List.length_singleton]; omega, rfl, rfl, Lib.hid (by have := hcnt.out; rw [List.length_append, List.length_singleton]; omega), Hgo, erow_snoc hrow3, hown3, hB3⟩
            case measure => simp [intOf]; have := hk1.out; omega
          | false =>
            simp only [hsgf rfl] at sg
            clear hsgf
            go_wp2_with (at_builtin; refine wpList_append_rowN rfl info_en (.tmp 34) (.tmp 36) 23 rfl und_en rfl ey ⟨W1.heap.size, 0, none⟩ 1 1 [enC ⟨ky, vy, gy⟩] rfl rfl (len_enC _) qy oy hlm ?_; intro v3 w3 hrow3 hg3 hr3; have hB3 := below_grown_own hBy hBy.size hg3 hown; have hown3 := own_later hown hBy.size hr3)
            go_roundw
            case rel => exact ⟨k + 1, acc ++ [(⟨ky, vy, gy⟩ : L.En)], false, hk1.out, by rw [List.length_append, List.length_singleton]; omega, rfl, rfl, Lib.hid (by have := hcnt.out; rw [List.length_append, List.length_singleton]; omega), Hgo, erow_snoc hrow3, hown3, hB3⟩
            case measure => simp [intOf]; have := hk1.out; omega
    · have d1 : decide ((k : Int) < (l.length : Int)) = false := decide_eq_false (by omega)
      have d1' : decide (k < l.length) = false := decide_eq_false hm
      have hend := hgo.out
      rw [List.drop_of_length_le (by omega)] at hend
      have hown' := hown.imp id (fun ⟨k', h1, h2⟩ => (⟨k', by omega, h2⟩ : ∃ k', w.heap.size ≤ k' ∧ _ = some k'))
      cases d with
      | true =>
        have Hend := Lib.hid (show R = acc by rw [hend]; simp [L.putGo])
        clear hend hgo
        go_wp2
        go_ret
        exact ⟨_, rfl, by rw [Hend.out]; exact hrow, hown', hBw⟩
      | false =>
        have Hend := Lib.hid (show R = acc ++ [(⟨kx, vx, gx⟩ : L.En)] by rw [hend]; simp [L.putGo])
        have hcnt1 : acc.length ≤ 100000 := by have h1 := hcnt.out; simp at h1; omega
        obtain ⟨x0, x1, x2, -, -, -⟩ := free3 (X0.below hB (by omega))
        have ex := RowN.alloc hrow (.cells #[.string ⟨kx.toArray⟩, .string ⟨vx.toArray⟩, .bool gx] 26)
        have hBx := hB.alloc hB.size (.cells #[.string ⟨kx.toArray⟩, .string ⟨vx.toArray⟩, .bool gx] 26)
        have qx := new_cellsN wr (enC ⟨kx, vx, gx⟩) _ rfl 26
        have ox := one_enC ⟨kx, vx, gx⟩
        have hlm : ((acc.map enC).length + 1) * 40 ≤ 140737488355328 := by (rw [List.length_map]; exact Nat.le_trans (Nat.mul_le_mul_right 40 (Nat.succ_le_succ hcnt1)) (by decide))
        clear hend hgo
        go_wp2_with (at_builtin; refine wpList_append_rowN rfl info_en (.tmp 41) (.tmp 43) 23 rfl und_en rfl ex ⟨wr.heap.size, 0, none⟩ 1 1 [enC ⟨kx, vx, gx⟩] rfl rfl (len_enC _) qx ox hlm ?_; intro v3 w3 hrow3 hg3 hr3; have hB3 := below_grown_own hBx hBx.size hg3 hown; have hown3 := own_later hown hBx.size hr3)
        go_ret
        exact ⟨_, rfl, by rw [Hend.out]; exact erow_snoc hrow3, hown3.imp id (fun ⟨k', h1, h2⟩ => ⟨k', by omega, h2⟩), hB0.trans (hB3.mono hB0.size)⟩
end Go.Proofs.Ytnfabofkfnmplaa
