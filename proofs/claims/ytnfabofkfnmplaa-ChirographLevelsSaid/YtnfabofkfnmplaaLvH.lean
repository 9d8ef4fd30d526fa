/- The walk of chirographtop's job: one table is made of a job's. -/
import Derived.Test.YtnfabofkfnmplaaLvHk
import Derived.Test.YtnfabofkfnmplaaLvW
import Derived.Deep.Cut
namespace Go.Proofs.Ytnfabofkfnmplaa
open Go.RowKit

theorem results_blk3 {P : Program} {w : World} {g : Nat} {t : TypeId} {fn : Func} {p q r : Tmp} {ty : TypeId} (hr : fn.results = #[.cell p ty, .tmp q, .tmp r]) (tmps : Array Value) {C : Array Value} (h : Blk w g C t) (d : TypeDesc) (v u : Value)
    (hp : tmps.getD p undef = .pointer (some ⟨g, 0, none⟩)) (hq : tmps.getD q undef = v) (hs : tmps.getD r undef = u) (hu : P.underlying ty = some d) (hd : (match d with | .struct _ | .array _ _ => true | _ => false) = true) (hi : (P.info? ty).map (·.size) = some C.size) :
    (results fn tmps).run P w = .ok (.tuple #[.agg C, v, u]) w := by
  have hp' : tmps[p]?.getD undef = .pointer (some ⟨g, 0, none⟩) := by simpa using hp
  have hq' : tmps[q]?.getD undef = v := by simpa using hq
  have hs' : tmps[r]?.getD undef = u := by simpa using hs
  simp [results, hr, hp', hq', hs', asAddr, run_loadVar_row w g t ty C (0, 0) d h hu hd hi]
theorem blk_row_ne {w : World} {g : Nat} {cs : Array Value} {t e : TypeId} {v : Value} {xs : List Value} (hb : Blk w g cs t) (h : Row1 w e v xs) (ht : e ≠ t) : some g ≠ v.ownBlock := by
  intro e1
  obtain ⟨c, hc⟩ := h.blk e1.symm
  exact ht (blk_type_ne hc hb)
theorem row1_open {w : World} {e : TypeId} {v : Value} {xs : List Value} (h : Row1 w e v xs) : ∃ A m c, v = .slice A m c ∧ m = xs.length ∧ Row1 w e (.slice A m c) xs := by
  rcases h.form with ⟨rfl, rfl⟩ | ⟨g, cap, rfl, _⟩
  · exact ⟨_, _, _, rfl, rfl, h⟩
  · exact ⟨_, _, _, rfl, rfl, h⟩
theorem row1_get {w : World} {e : TypeId} {A : Option Addr} {m c : Nat} {xs : List Value} (h : Row1 w e (.slice A m c) xs) {k : Nat} {x : Value} (hk : xs[k]? = some x) : ∃ g, A = some ⟨g, 0, none⟩ ∧ g < w.heap.size ∧ w.cell? ⟨g, k, none⟩ = some x := by
  rcases h.form with ⟨e1, rfl⟩ | ⟨g, cap, e1, _⟩
  · cases hk
  · injection e1 with e1 _ _
    subst e1
    exact ⟨g, rfl, h.lt rfl, h.cell rfl k x hk⟩
theorem blk_rown_ne {w : World} {g size : Nat} {cs : Array Value} {t e : TypeId} {v : Value} {l : List (List Value)} (hb : Blk w g cs t) (h : RowN w e size v l) (ht : e ≠ t) : some g ≠ v.ownBlock := by
  intro e1
  obtain ⟨c, hc⟩ := h.blk e1.symm
  exact ht (blk_type_ne hc hb)
set_option maxRecDepth 100000 in
set_option maxHeartbeats 8000000 in
theorem jobt_any {i c : Nat} {s : L.St} {T : List (List L.En)} {W : List L.En} {j : L.Jb} (hI : L.Inv i c s T W) (hj : L.JobOk s j) (hi : i ≤ 10) (hc : c ≤ 100) (sv tv uf ut : Value) (vs : List Value) (w : World) (h : FRead w sv s.files) (hv : Row1 w 23 tv vs) (hrr : RowAll w vs T) (huf : Row1 w 3 uf (j.from_.map fun f => intV f.num)) (hut : Row1 w 3 ut (j.to_.map fun f => intV f.num)) :
    Calls Try.prog 9 #[stV s sv, tv, jbV j.lev uf ut] w fun e w' => ∃ (s' : L.St) (T' : List (List L.En)) (sv' tv' : Value) (vs' : List Value), e = .returned (.tuple #[stV s' sv', tv', .bool true]) ∧ L.Inv i (c + 1) s' T' W ∧ FRow w' sv' s'.files ∧ Row1 w' 23 tv' vs' ∧ RowAll w' vs' T' ∧ Below w.heap.size w w' := by
  have hr := hrr.reads
  replace hrr := Lib.hid hrr
  obtain ⟨S, sc, rfl, -, h⟩ := fread_open h
  obtain ⟨Af, mf, cf, rfl⟩ := row1_form huf
  obtain ⟨At, mt, ct, rfl⟩ := row1_form hut
  have hlen := hI.few
  obtain ⟨G, hG⟩ : ∃ G, G = L.goneN j := ⟨_, rfl⟩
  have hGm : (j.from_.map fun f => intV f.num) ++ (j.to_.map fun f => intV f.num) = G.map intV := by
    rw [hG]
    unfold L.goneN
    rw [List.map_append, List.map_map, List.map_map]
    rfl
  have hf0 : (j.from_.map fun f => intV f.num) ≠ [] := by
    have := hj.2.1
    intro e
    exact this (List.map_eq_nil_iff.1 e)
  have hfl : j.from_.length ≤ s.files.length := by
    rcases hj.2.2.2 with ⟨_, h1⟩ | ⟨_, o, ho, h1⟩
    · rw [h1]; exact List.length_filter_le _ _
    · rw [h1]
      have : s.files ≠ [] := fun e => by
        have := (List.mem_filter.1 ho).1
        rw [e] at this; cases this
      exact List.length_pos_iff.2 this
  have htl : j.to_.length ≤ s.files.length := by
    rw [hj.1]
    exact Nat.le_trans (List.length_filter_le _ _) (List.length_filter_le _ _)
  have hGl : G.length ≤ 20 := by
    rw [hG]
    unfold L.goneN
    rw [List.length_append, List.length_map, List.length_map]
    omega
  have hfi := int_one (j.from_.map L.Fi.num)
  have hti := int_one (j.to_.map L.Fi.num)
  have hli : ((j.from_.map fun f => intV f.num).length) * 8 ≤ 140737488355328 := by rw [List.length_map]; omega
  have hlt : ((j.from_.map fun f => intV f.num).length + (j.to_.map fun f => intV f.num).length) * 8 ≤ 140737488355328 := by rw [List.length_map, List.length_map]; omega
  have hti' : ∀ x ∈ (j.to_.map fun f => intV f.num), x.oneCell' = true := by
    intro x hx
    obtain ⟨f, _, rfl⟩ := List.mem_map.1 hx
    rfl
  obtain ⟨B0, B1, B2, hB⟩ := three_new w #[.int .i64 (s.next : Int), .int .i64 (s.log : Int), .slice S s.files.length sc] #[.int .i64 (j.lev : Int), .slice Af mf cf, .slice At mt ct] #[.int .i64 0, .int .i64 0, .slice none 0 0] 29 39 29 _ rfl
  have hufR := Lib.hid (show SRead w (.slice Af mf cf) ((j.from_.map L.Fi.num).map numV) by rw [List.map_map]; exact huf.reads)
  have hutR := Lib.hid (show SRead w (.slice At mt ct) ((j.to_.map L.Fi.num).map numV) by rw [List.map_map]; exact hut.reads)
  have LA : ∀ W', Below w.heap.size w W' → Calls Try.prog 24 #[stV s (.slice S s.files.length sc), jbV j.lev (.slice Af mf cf) (.slice At mt ct)] W' fun e w' => e = .returned (.bool (L.lastJ s j)) ∧ Below W'.heap.size W' w' := fun W' hW =>
    last_any s _ _ _ j.lev (j.from_.map L.Fi.num) (j.to_.map L.Fi.num) W' (h.at_ hW) (SRead.at_ hufR.out hW) (SRead.at_ hutR.out hW) (by omega) (by rw [List.length_map]; omega) (by rw [List.length_map]; omega) (by have := hj.2.2.1; omega) (L.mine_ne hI hj)
  replace LA := Lib.hid LA
  have htot : L.total ((L.mine s j).map (L.tbl T)) ≤ 200 := by
    have h1 := L.total_two T (fun f => decide (f.num ∈ L.goneN j)) s.files
    have h2 := hI.tot
    unfold L.mine
    omega
  have hml : ((L.mine s j).map (L.tbl T)).length ≤ 10 := by
    rw [List.length_map]
    have := List.length_filter_le (fun f : L.Fi => decide (f.num ∈ L.goneN j)) s.files
    unfold L.mine
    omega
  have hHI := Lib.hid hI
  have hHj := Lib.hid hj
  replace hG := Lib.hid hG
  have hlen := Lib.hid hlen
  clear hI hj hfl htl
  unfold stV jbV at *
  go_enter Try.func9, Try.ntmps9
  go_wp2
  refine wp_world fun W0 hW0 => ?_
  rw [← hW0] at B0 B1 B2 hB
  clear hW0
  apply wp_region_rel_below_tail 6 [[], [(5, none)], [(20, some 1)], [(19, some 0), (21, some 2)], [(5, none)], [(23, some 4)]] [blkRow 0 0 #[] 3, eqv _, eqv _, row1of 3 (j.from_.map fun f => intV f.num) w.heap.size, eqv _, eqv _] (by kernel_rfl) (by kernel_rfl)
  case hobs =>
    refine ⟨?_, ?_⟩
    · rintro L a1 w1 hT - - -   -- 0: Op.buildSlice 37 0 #[]
      go_simp; exact left_intro (T := Stp) (Ph := fun _ _ _ => True) (blkRow_new _ _ _ _ _) (Stp.alloc _ _) trivial
    refine ⟨?_, ?_⟩
    · rintro L a1 w1 hT - - ⟨h5, -⟩   -- 1: Op.fieldAddr 39 t5 1
      have e5 : a1.tmps.getD 5 undef = _ := h5
      have f5 := getD_form e5
      clear h5
      go_simp; exact left_intro rfl (Stp.refl _) trivial
    refine ⟨?_, ?_⟩
    · rintro L a1 w1 hT - - ⟨h20, -⟩   -- 2: Op.load 37 t20
      have e20 : a1.tmps.getD 20 undef = _ := h20
      have f20 := getD_form e20
      clear h20
      have c := (B1.drew.at_ hT).cellv (i := 1) (v := .slice Af mf cf) rfl
      go_simp; exact left_intro rfl (Stp.refl _) trivial
    refine ⟨?_, ?_⟩
    · rintro L a1 w1 hT - - ⟨h19, h21, -⟩   -- 3: Op.call { builtin append, args := #[t19, t21], argTypes := #[37, 37] }
      obtain ⟨b19, e19, B19⟩ : (blkRow 0 0 #[] 3) (a1.tmps.getD 19 undef) w1 := h19
      have f19 := getD_form e19
      have e21 : a1.tmps.getD 21 undef = _ := h21
      have f21 := getD_form e21
      clear h21
      exact wp_append_zero info_int (.tmp 19) (.tmp 21) 37 rfl Try.underlying37 e19 e21 (huf.at_ (hB.drew.trans (hT.mono hB.size))) hf0 hli (fun v3 w3 r3 b3 o3 => left_intro (T := Stp) (Ph := fun _ _ _ => True) ⟨r3, o3.elim fun k hk => ⟨k, Nat.le_trans (Nat.le_trans hB.size hT.size) hk.1, hk.2⟩⟩ (Stp.of b3) trivial)
    refine ⟨?_, ?_⟩
    · rintro L a1 w1 hT - - ⟨h5, -⟩   -- 4: Op.fieldAddr 39 t5 2
      have e5 : a1.tmps.getD 5 undef = _ := h5
      have f5 := getD_form e5
      clear h5
      go_simp; exact left_intro rfl (Stp.refl _) trivial
    refine ⟨?_, ?_⟩
    · rintro L a1 w1 hT - - ⟨h23, -⟩   -- 5: Op.load 37 t23
      have e23 : a1.tmps.getD 23 undef = _ := h23
      have f23 := getD_form e23
      clear h23
      have c := (B1.drew.at_ hT).cellv (i := 2) (v := .slice At mt ct) rfl
      go_simp; exact left_intro rfl (Stp.refl _) trivial
    trivial
  case hmono => repeat (first | exact trivial | refine ⟨fun _ _ _ _ h => h, ?_⟩ | refine ⟨mono_blkRow _ _ _ _, ?_⟩ | refine ⟨mono_row1of _ _ _, ?_⟩)
  case hend =>
    intro w2 hT
    rintro v19 - _ rfl _ rfl v22 hb22 _ rfl _ rfl
    change wpList _ _ _ _ _ _
    simp only [Act.put, List.setIfInBounds_toArray, List.set_cons_succ, List.set_cons_zero, List.drop_succ_cons, List.drop_zero]
    have B0a := B0.at_ hT
    have B1a := B1.at_ hT
    have B2a := B2.at_ hT
    have hB2 := hB.trans (hT.mono hB.size)
    obtain ⟨r22, k22, hk22, ho22⟩ := hb22
    have hut2 := hut.at_ hB2
    refine wpList_append_rows rfl info_int (.tmp 22) (.tmp 24) 37 rfl Try.underlying37 rfl r22 rfl hut2 hti' hlt ?_
    intro v9 w3 hrow9 hg9 hr9
    rw [hGm] at hrow9
    have B0b := B0a.grown hg9 (blk_row_ne B0a r22 (by decide))
    have B1b := B1a.grown hg9 (blk_row_ne B1a r22 (by decide))
    have B2b := B2a.grown hg9 (blk_row_ne B2a r22 (by decide))
    have hB3 := below_grown_own hB2 hB2.size hg9 (.inr ⟨k22, hk22, ho22⟩)
    have own9 := Lib.hid (own_later (.inr ⟨k22, hk22, ho22⟩) hB2.size hr9)
    clear r22 hut2 hg9 hr9 B0a B1a B2a hB2 hT B0 B1 B2 hB ho22 hk22
    obtain ⟨A9, m9, c9, rfl, hm9, hrow9⟩ := row1_open hrow9
    rw [List.length_map] at hm9
    clear huf hut hGm hf0 hfi hti hli hlt hti'
    have r10 : Row1 (w3.alloc (.cells #[] 23)) 23 (.slice (some ⟨w3.heap.size, 0, none⟩) 0 0) [] := Row1.build w3 _ [] #[] 0 rfl rfl (by omega)
    have o10 : (Value.slice (some ⟨w3.heap.size, 0, none⟩) 0 0).ownBlock = none ∨ ∃ k, w.heap.size ≤ k ∧ (Value.slice (some ⟨w3.heap.size, 0, none⟩) 0 0).ownBlock = some k := .inr ⟨_, hB3.size, rfl⟩
    have B0c := B0b.alloc (.cells #[] 23)
    have B1c := B1b.alloc (.cells #[] 23)
    have B2c := B2b.alloc (.cells #[] 23)
    have hrow9c := hrow9.alloc (.cells #[] 23)
    have hB4 := hB3.alloc hB3.size (.cells #[] 23)
    obtain ⟨x0, x1, x2, -, -, -⟩ := free3 B0c
    replace hm9 := Lib.hid hm9
    clear B0b B1b B2b hrow9 hB3
    go_wp2
    clear x0 x1 x2
    refine wp_world fun W1 hW1 => ?_
    rw [← hW1] at r10 B0c B1c B2c hrow9c hB4
    clear hW1
    obtain ⟨A1, m1, c1, rfl, hm1v, hv⟩ := row1_open hv
    replace hm1v := Lib.hid (hm1v.trans hr.1)
    go_loopw [10, 30] (fun u i wr => ∃ (k : Nat) (vl : List Value), k ≤ s.files.length ∧ i = .int .i64 (k : Int) ∧ Row1 wr 23 u vl ∧ Hid (ReadAll w vl (((s.files.take k).filter (fun f => decide (f.num ∈ G))).map (L.tbl T))) ∧ (u.ownBlock = none ∨ ∃ k, w.heap.size ≤ k ∧ u.ownBlock = some k) ∧ Blk wr w.heap.size #[.int .i64 (s.next : Int), .int .i64 (s.log : Int), .slice S s.files.length sc] 29 ∧ Blk wr (w.heap.size + 1) #[.int .i64 (j.lev : Int), .slice Af mf cf, .slice At mt ct] 39 ∧ Blk wr (w.heap.size + 1 + 1) #[.int .i64 0, .int .i64 0, .slice none 0 0] 29 ∧ Row1 wr 3 (.slice A9 m9 c9) (G.map intV) ∧ Below w.heap.size w wr) (fun _ i _ => s.files.length - (intOf i).toNat)
    case atStart => exact ⟨0, [], Nat.zero_le _, rfl, r10, Lib.hid (ReadAll.nil w), o10, B0c, B1c, B2c, hrow9c, hB4⟩
    case round =>
      clear B0c B1c B2c hrow9c hB4 r10 o10
      obtain ⟨k, vl, hk, rfl, hrow, hRA, hown, B0, B1, B2, hrow9, hB⟩ := hrel
      have q0 : (0 : Int) ≤ (k : Int) := by omega
      by_cases hm : k < s.files.length
      · have d1 : decide ((k : Int) < (s.files.length : Int)) = true := decide_eq_true (by omega)
        have d1' : decide (k < s.files.length) = true := decide_eq_true hm
        have q1 : (k : Int) < (s.files.length : Int) := by omega
        have hw1 : IntKind.i64.wrap ((k : Int) + 1) = ((k + 1 : Nat) : Int) := by rw [IntWalk.i64_in _ (by have := hlen.out; omega)]; omega
        have hk1 := Lib.hid (show k + 1 ≤ s.files.length by omega)
        obtain ⟨f, hf0⟩ : ∃ f, s.files[k]? = some f := ⟨_, List.getElem?_eq_getElem hm⟩
        obtain ⟨g, o, rfl, hg, cR⟩ := fread_at (h.at_ hB) hf0
        have hfn := hHI.out.nlt f (List.mem_of_getElem? hf0)
        have hND := Lib.hid (show G.Nodup by rw [hG.out]; exact L.gone_nodup hHI.out hHj.out)
        have htk := Lib.hid (L.filter_snoc (fun f => decide (f.num ∈ G)) hf0)
        have hvl : vl.length ≤ 10 := by
          rw [hRA.out.1, List.length_map]
          have := List.length_filter_le (fun f : L.Fi => decide (f.num ∈ G)) (s.files.take k)
          rw [List.length_take] at this
          have := hlen.out
          omega
        obtain ⟨F0, hF0⟩ : ∃ F, F = (s.files.take k).filter (fun f => decide (f.num ∈ G)) := ⟨_, rfl⟩
        rw [← hF0] at hRA
        replace hF0 := Lib.hid hF0
        have cR' : wr.rangeAt g (o + k * 5) [.int .i64 (f.num : Int), .int .i64 (f.lev : Int), .int .i64 (f.size : Int), .string ⟨f.first.toArray⟩, .string ⟨f.last.toArray⟩] := cR
        have hsz : (Try.prog.info? 33).map (·.size) = some [Value.int .i64 (f.num : Int), .int .i64 (f.lev : Int), .int .i64 (f.size : Int), .string ⟨f.first.toArray⟩, .string ⟨f.last.toArray⟩].length := size_fi
        have hrow1 := hrow.alloc (.cells #[.int .i64 (f.num : Int), .int .i64 (f.lev : Int), .int .i64 (f.size : Int), .string ⟨f.first.toArray⟩, .string ⟨f.last.toArray⟩] 33)
        have hrow91 := hrow9.alloc (.cells #[.int .i64 (f.num : Int), .int .i64 (f.lev : Int), .int .i64 (f.size : Int), .string ⟨f.first.toArray⟩, .string ⟨f.last.toArray⟩] 33)
        have X1 := Blk.new wr #[.int .i64 (f.num : Int), .int .i64 (f.lev : Int), .int .i64 (f.size : Int), .string ⟨f.first.toArray⟩, .string ⟨f.last.toArray⟩] 33
        have B0a := B0.alloc (.cells #[.int .i64 (f.num : Int), .int .i64 (f.lev : Int), .int .i64 (f.size : Int), .string ⟨f.first.toArray⟩, .string ⟨f.last.toArray⟩] 33)
        have B1a := B1.alloc (.cells #[.int .i64 (f.num : Int), .int .i64 (f.lev : Int), .int .i64 (f.size : Int), .string ⟨f.first.toArray⟩, .string ⟨f.last.toArray⟩] 33)
        have B2a := B2.alloc (.cells #[.int .i64 (f.num : Int), .int .i64 (f.lev : Int), .int .i64 (f.size : Int), .string ⟨f.first.toArray⟩, .string ⟨f.last.toArray⟩] 33)
        have hB1 := hB.alloc hB.size (.cells #[.int .i64 (f.num : Int), .int .i64 (f.lev : Int), .int .i64 (f.size : Int), .string ⟨f.first.toArray⟩, .string ⟨f.last.toArray⟩] 33)
        clear cR hf0 hg
        go_upto_region 6 with (refine wpList_load_mid rfl 33 (.tmp 32) rfl g (o + k * 5) rfl _ _ cR' Try.underlying33 rfl hsz ?_; go_frame)
        refine wp_world fun W2 hW2 => ?_
        rw [← hW2] at hrow1 hrow91 X1 B0a B1a B2a hB1
        clear hW2 cR' hsz d1 d1' q1 hB B0 B1 B2 hrow hrow9
        generalize wr.heap.size = gx at *
        go_wp2
        go_loopw [10, 36] (fun u i wr => ∃ (m : Nat) (vl : List Value), m ≤ m9 ∧ vl.length ≤ 11 ∧ i = .int .i64 (m : Int) ∧ Row1 wr 23 u vl ∧ Hid (ReadAll w vl (F0.map (L.tbl T) ++ if f.num ∈ G.take m then [L.tbl T f] else []) ∧ (f.num ∉ G.take m → vl.length ≤ 10)) ∧ (u.ownBlock = none ∨ ∃ k, w.heap.size ≤ k ∧ u.ownBlock = some k) ∧ Blk wr w.heap.size #[.int .i64 (s.next : Int), .int .i64 (s.log : Int), .slice (some ⟨g, o, none⟩) s.files.length sc] 29 ∧ Blk wr (w.heap.size + 1) #[.int .i64 (j.lev : Int), .slice Af mf cf, .slice At mt ct] 39 ∧ Blk wr (w.heap.size + 1 + 1) #[.int .i64 0, .int .i64 0, .slice none 0 0] 29 ∧ Blk wr gx #[.int .i64 (f.num : Int), .int .i64 (f.lev : Int), .int .i64 (f.size : Int), .string ⟨f.first.toArray⟩, .string ⟨f.last.toArray⟩] 33 ∧ Row1 wr 3 (.slice A9 m9 c9) (G.map intV) ∧ Below w.heap.size w wr) (fun _ i _ => m9 - (intOf i).toNat)
        case atStart => exact ⟨0, vl, Nat.zero_le _, by omega, rfl, hrow1, Lib.hid ⟨by rw [List.take_zero, if_neg (by simp), List.append_nil]; exact hRA.out, fun _ => hvl⟩, hown, B0a, B1a, B2a, X1, hrow91, hB1⟩
        case round =>
          clear B0a B1a B2a hrow91 hB1 hrow1 hown X1 hRA hvl
          obtain ⟨m, vl, hmm, hvl, rfl, hrow, hRA, hown, B0, B1, B2, X1, hrow9, hB⟩ := hrel
          have q0 : (0 : Int) ≤ (m : Int) := by omega
          by_cases hmk : m < m9
          · have d1 : decide ((m : Int) < (m9 : Int)) = true := decide_eq_true (by omega)
            have d1' : decide (m < m9) = true := decide_eq_true hmk
            have q1 : (m : Int) < (m9 : Int) := by omega
            have hw2 : IntKind.i64.wrap ((m : Int) + 1) = ((m + 1 : Nat) : Int) := by rw [IntWalk.i64_in _ (by have := hm9.out; omega)]; omega
            have hm1 := Lib.hid (show m + 1 ≤ m9 by omega)
            obtain ⟨y, hy⟩ : ∃ y, G[m]? = some y := ⟨_, List.getElem?_eq_getElem (by have := hm9.out; omega)⟩
            obtain ⟨g9, rfl, hg9, cY⟩ := row1_get hrow9 (k := m) (x := .int .i64 (y : Int)) (by rw [List.getElem?_map, hy]; rfl)
            have htm := L.take_snoc hy
            obtain ⟨⟨x0, -, -, -, -⟩, -⟩ := free5 X1
            by_cases hfy : f.num = y
            · subst hfy
              have hni : f.num ∉ G.take m := fun h9 => by
                obtain ⟨h7, h8⟩ := List.getElem?_eq_some_iff.1 hy
                have h6 : G = G.take m ++ f.num :: G.drop (m + 1) := by
                  rw [← h8, ← List.drop_eq_getElem_cons h7, List.take_append_drop]
                have h5 := hND.out
                rw [h6] at h5
                exact (List.nodup_append.1 h5).2.2 _ h9 _ List.mem_cons_self rfl
              have hRA2 := hRA.out
              rw [if_neg hni, List.append_nil] at hRA2
              have hvl2 := hRA2.2 hni
              have hyT : T[f.num]? = some (L.tbl T f) := by
                unfold L.tbl
                rw [List.getD_eq_getElem?_getD, List.getElem?_eq_getElem hfn]
                rfl
              obtain ⟨x, hx⟩ : ∃ x, vs[f.num]? = some x := ⟨_, List.getElem?_eq_getElem (by rw [hr.1]; exact hfn)⟩
              have hEx := hr.2 _ _ _ hx hyT
              obtain ⟨Ay, ly, cy, rfl⟩ : ∃ A n c, x = .slice A n c := by
                obtain ⟨A, c, e, _⟩ := eread_open hEx
                exact ⟨_, _, _, e⟩
              obtain ⟨g1, rfl, hg1, cX⟩ := row1_get (hv.at_ hB) hx
              have hmem : f.num ∈ G.take (m + 1) := by rw [htm]; simp
              have hRA3 := Lib.hid (show ReadAll w (vl ++ [.slice Ay ly cy]) (F0.map (L.tbl T) ++ if f.num ∈ G.take (m + 1) then [L.tbl T f] else []) ∧ (f.num ∉ G.take (m + 1) → (vl ++ [Value.slice Ay ly cy]).length ≤ 10) from ⟨by rw [if_pos hmem]; exact hRA2.1.snoc hEx, fun h9 => absurd hmem h9⟩)
              have d3 : decide ((f.num : Int) < (m1 : Int)) = true := decide_eq_true (by have := hm1v.out; omega)
              have d3' : decide (f.num < m1) = true := decide_eq_true (by have := hm1v.out; omega)
              have q3 : (f.num : Int) < (m1 : Int) := by have := hm1v.out; omega
              have q4 : (0 : Int) ≤ (f.num : Int) := by omega
              have r2 := hrow.alloc (.cells #[.slice Ay ly cy] 23)
              have B0b := B0.alloc (.cells #[.slice Ay ly cy] 23)
              have B1b := B1.alloc (.cells #[.slice Ay ly cy] 23)
              have B2b := B2.alloc (.cells #[.slice Ay ly cy] 23)
              have X1b := X1.alloc (.cells #[.slice Ay ly cy] 23)
              have hrow9b := hrow9.alloc (.cells #[.slice Ay ly cy] 23)
              have hB2 := hB.alloc hB.size (.cells #[.slice Ay ly cy] 23)
              have qx := new_cells wr [.slice Ay ly cy] _ rfl 23
              have ox : ∀ u ∈ [Value.slice Ay ly cy], u.oneCell' = true := by
                intro u hu
                rw [List.mem_singleton.1 hu]
                rfl
              have hlm : (vl.length + 1) * 24 ≤ 140737488355328 := by omega
              have n0 := blk_row_ne B0b r2 (by decide)
              have n1 := blk_row_ne B1b r2 (by decide)
              have n2 := blk_row_ne B2b r2 (by decide)
              have n3 := blk_row_ne X1b r2 (by decide)
              have n9 := Row1.ne_ hrow9b r2 (by decide)
              clear hmem hRA2 hEx hx hyT hni hy htm hRA hrow hB X1 B0 B1 B2 hrow9 hfn hg1 hg9
              go_wp2_with (at_builtin; refine wpList_append_row rfl info_sl (.tmp 50) (.tmp 55) 22 rfl und_ee rfl r2 ⟨wr.heap.size, 0, none⟩ 1 1 [.slice Ay ly cy] rfl rfl qx ox hlm ?_; intro v3 w3 hrow3 hg9 hr3; have hB3 := below_grown_own hB2 hB2.size hg9 hown; have hown3 := own_later hown hB2.size hr3; have B0c := B0b.grown hg9 n0; have B1c := B1b.grown hg9 n1; have B2c := B2b.grown hg9 n2; have X1c := X1b.grown hg9 n3; have hrow9c := hrow9b.grown hg9 n9)
              go_roundw
              case rel => exact ⟨m + 1, vl ++ [.slice Ay ly cy], hm1.out, by rw [List.length_append, List.length_singleton]; omega, rfl, hrow3, hRA3, hown3, B0c, B1c, B2c, X1c, hrow9c, hB3⟩
              case measure => simp [intOf]; have := hm1.out; omega
            · have d2 : ((f.num : Int) == (y : Int)) = false := by rw [beq_eq_false_iff_ne]; omega
              have d2' : (f.num == y) = false := by rw [beq_eq_false_iff_ne]; exact hfy
              have hRA2 := hRA.out
              have hmem : f.num ∈ G.take (m + 1) ↔ f.num ∈ G.take m := by rw [htm]; simp [hfy]
              have e9 : (if f.num ∈ G.take m then [L.tbl T f] else []) = if f.num ∈ G.take (m + 1) then [L.tbl T f] else [] := by
                by_cases h9 : f.num ∈ G.take m
                · rw [if_pos h9, if_pos (hmem.2 h9)]
                · rw [if_neg h9, if_neg (fun h8 => h9 (hmem.1 h8))]
              rw [e9, ← hmem] at hRA2
              replace hRA2 := Lib.hid hRA2
              clear e9 hmem htm hy hRA hfy
              go_wp2
              go_roundw
              case rel => exact ⟨m + 1, vl, hm1.out, hvl, rfl, hrow, hRA2, hown, B0, B1, B2, X1, hrow9, hB⟩
              case measure => simp [intOf]; have := hm1.out; omega
          · have d1 : decide ((m : Int) < (m9 : Int)) = false := decide_eq_false (by omega)
            have d1' : decide (m < m9) = false := decide_eq_false hmk
            rw [List.take_of_length_le (by have := hm9.out; omega)] at hRA
            go_wp2
            go_roundw
            case rel => exact ⟨k + 1, vl, hk1.out, rfl, hrow, Lib.hid (by
              rw [htk.out, ← hF0.out, List.map_append]
              have := hRA.out.1
              by_cases h9 : f.num ∈ G
              · rw [if_pos h9] at this
                rw [if_pos (decide_eq_true h9)]
                exact this
              · rw [if_neg h9] at this
                rw [if_neg (by simp [h9])]
                exact this), hown, B0, B1, B2, hrow9, hB⟩
            case measure => simp [intOf]; have := hk1.out; omega
      · have d1 : decide ((k : Int) < (s.files.length : Int)) = false := decide_eq_false (by omega)
        have d1' : decide (k < s.files.length) = false := decide_eq_false hm
        rw [List.take_of_length_le (by omega)] at hRA
        obtain ⟨Au, mu, cu, rfl, hmu, hrow⟩ := row1_open hrow
        replace hmu := Lib.hid hmu
        have hRAm : ReadAll wr vl ((L.mine s j).map (L.tbl T)) := by
          have h9 := hRA.out
          rw [hG.out] at h9
          exact h9.at_ hB
        obtain ⟨M, hM⟩ : ∃ M, M = L.made s T j := ⟨_, rfl⟩
        have hMl : M.length ≤ 200 := by
          rw [hM]
          exact Nat.le_trans (L.made_len hHI.out) htot
        have LI : ∀ W', Below wr.heap.size wr W' → Calls Try.prog 4 #[.slice Au mu cu, .bool (L.lastJ s j)] W' fun e w' => ∃ v', e = .returned v' ∧ ERow w' v' M ∧ (v'.ownBlock = none ∨ ∃ k, W'.heap.size ≤ k ∧ v'.ownBlock = some k) ∧ Below W'.heap.size W' w' := fun W' hW => by
          rw [hM]
          exact lists_any vl _ _ (L.lastJ s j) W' (hrow.at_ hW).reads (hRAm.at_ hW) (by omega) (by omega)
        replace LI := Lib.hid LI
        replace hM := Lib.hid hM
        have LA2 := LA.out wr hB
        replace LA2 := Lib.hid LA2
        obtain ⟨x0, x1, x2, -, -, -⟩ := free3 B0
        obtain ⟨z0, z1, z2, -, -, -⟩ := free3 B1
        clear hRA hRAm hm hk htot hml LA
        generalize L.lastJ s j = dr at *
        go_upto_region 15 with (first | (go_at_call 24; refine LA2.out.mono ?_; rintro e w4 ⟨rfl, hb4⟩) | (go_at_call 4; refine (LI.out _ hb4).mono ?_; rintro e w5 ⟨v15, rfl, hr15, -, hb5⟩; obtain ⟨Am, mm, cm, rfl, hmm, hr15⟩ := erow_open hr15; replace hmm := Lib.hid hmm; have hb45 := hb4.trans (hb5.mono hb4.size); have B0a := (B0.at_ hb45).alloc (.cells #[] 33); have B1a := (B1.at_ hb45).alloc (.cells #[] 33); have B2a := (B2.at_ hb45).alloc (.cells #[] 33); have hrow9a := (hrow9.at_ hb45).alloc (.cells #[] 33); have hr15a := ERow.alloc hr15 (.cells #[] 33); have hB5 := hB.trans (hb45.mono hB.size); have hB6 := hB5.alloc hB5.size (.cells #[] 33); have r16 : FRow (w5.alloc (.cells #[] 33)) (.slice (some ⟨w5.heap.size, 0, none⟩) 0 0) [] := RowN.build w5 _ 5 [] #[] 0 rfl (by simp) rfl (by omega)))
        refine wp_world fun W6 hW6 => ?_
        rw [← hW6] at B0a B1a B2a hrow9a hr15a hB6 r16
        have hg16 := hB5.size
        clear hW6 B0 B1 B2 hrow hrow9 hB LA2 LI hb4 hb5 hb45 hr15 hB5 x0 x1 x2 z0 z1 z2 d1 d1' q0
        generalize w5.heap.size = g16 at *
        by_cases hM0 : M = []
        · skip
          have d2 : decide ((0 : Int) < (mm : Int)) = false := decide_eq_false (by have := hmm.out; rw [hM0] at this; simp at this; omega)
          have d2' : decide (0 < mm) = false := decide_eq_false (by have := hmm.out; rw [hM0] at this; simp at this; omega)
          have hI1 := L.job_none hHI.out hHj.out (hM.out.symm.trans hM0)
          have AP := apply_any s (.slice S s.files.length sc) (.slice A9 m9 c9) (.slice (some ⟨g16, 0, none⟩) 0 0) G [] s.log W6 (h.at_ hB6) hrow9a.reads r16.reads (hHI.out.good (by omega) (by omega)) (by omega) (by rw [hG.out]; exact L.gone_any hHj.out) (by simp) (by have := hlen.out; simp; omega) (by rw [hG.out]; exact hI1.good (by omega) (by omega))
          rw [← hG.out] at hI1
          obtain ⟨sx, hs1⟩ : ∃ s1, s1 = L.applied s G [] s.log := ⟨_, rfl⟩
          rw [← hs1] at hI1 AP
          unfold stV at AP
          replace hI1 := Lib.hid hI1
          replace AP := Lib.hid AP
          clear hs1 hM0 hmm hr15a r16 hrow9a
          obtain ⟨y0, y1, y2, -, -, -⟩ := free3 B0a
          go_wp2_with (go_at_call 7; refine AP.out.mono ?_; rintro e w7 ⟨v8, rfl, hr8, hb7⟩; obtain ⟨A8, m8, c8, rfl, hm8, hr8⟩ := frow_open hr8; replace hm8 := Lib.hid hm8; have X7 := Blk.new w7 #[.int .i64 (sx.next : Int), .int .i64 (sx.log : Int), .slice A8 m8 c8] 29; have B2y := (B2a.at_ hb7).alloc (.cells #[.int .i64 (sx.next : Int), .int .i64 (sx.log : Int), .slice A8 m8 c8] 29); have hr8a := FRow.alloc hr8 (.cells #[.int .i64 (sx.next : Int), .int .i64 (sx.log : Int), .slice A8 m8 c8] 29); have hBx := hB6.trans (hb7.mono hB6.size); have hBy := hBx.alloc hBx.size (.cells #[.int .i64 (sx.next : Int), .int .i64 (sx.log : Int), .slice A8 m8 c8] 29); obtain ⟨x0, x1, x2, -, -, -⟩ := free3 X7; obtain ⟨t0, t1, t2, s0, s1, s2⟩ := free3 B2y; obtain ⟨b2, o2⟩ := put3 B2y (.int .i64 (sx.next : Int)) (.int .i64 (sx.log : Int)) (.slice A8 m8 c8) _ rfl; have hr9 := frow_only hr8a B2y (by decide) o2; have hBz := o2.below hBy (by omega); skip)
          exact bodyPost_ret (v := .tuple #[.agg #[.int .i64 (sx.next : Int), .int .i64 (sx.log : Int), .slice A8 m8 c8], .slice A1 m1 c1, .bool true]) (results_blk3 (by rfl) _ b2 _ _ _ (by rfl) (by rfl) (by rfl) Try.underlying29 (by rfl) (by kernel_rfl)) rfl ⟨sx, T, .slice A8 m8 c8, .slice A1 m1 c1, vs, rfl, hI1.out, hr9, hv.at_ hBz, hrr.out.at_ hBz, hBz⟩
        · obtain rfl : m1 = s.next := hm1v.out.trans hHI.out.next
          have hmp0 : 0 < mm := by have := hmm.out; rw [this]; exact List.length_pos_iff.2 hM0
          have d2 : decide ((0 : Int) < (mm : Int)) = true := decide_eq_true (by omega)
          have d2' : decide (0 < mm) = true := decide_eq_true hmp0
          go_upto_region 16 with (fail)
          clear d2 d2'
          obtain ⟨mp, hmp⟩ : ∃ n, mm = n + 1 := ⟨mm - 1, by omega⟩
          obtain ⟨⟨kx, vx, ex⟩, hx0⟩ : ∃ x, M[0]? = some x := ⟨_, List.getElem?_eq_getElem (by have := hmm.out; omega)⟩
          obtain ⟨⟨ky, vy, ey⟩, hy0⟩ : ∃ x, M[mp]? = some x := ⟨_, List.getElem?_eq_getElem (by have := hmm.out; omega)⟩
          obtain ⟨gm, om, rfl, hgm, cX⟩ := eread_at hr15a.reads hx0
          obtain ⟨gm2, om2, e2, -, cY⟩ := eread_at hr15a.reads hy0
          injection e2 with e2
          injection e2 with e2 e3 _
          subst e2 e3
          rw [Nat.zero_mul, Nat.add_zero] at cX
          obtain ⟨lv, hlv⟩ : ∃ n, n = j.lev + 1 := ⟨_, rfl⟩
          obtain ⟨s8, hs8⟩ : ∃ n, n = 8 * mm := ⟨_, rfl⟩
          have hMl2 : mm ≤ 200 := by rw [hmm.out]; exact hMl
          have hwj : IntKind.i64.wrap ((j.lev : Int) + 1) = (lv : Int) := by rw [IntWalk.i64_in _ (by have := hHj.out.2.2.1; omega)]; omega
          have hw8 : IntKind.i64.wrap (8 * (mm : Int)) = (s8 : Int) := by rw [IntWalk.i64_in _ (by omega)]; omega
          have hwl : IntKind.i64.wrap ((mm : Int) - 1) = (mp : Int) := by rw [IntWalk.i64_in _ (by omega)]; omega
          have q1 : (0 : Int) < (mm : Int) := by omega
          have q2 : (mp : Int) < (mm : Int) := by omega
          have q3 : (0 : Int) ≤ (mp : Int) := by omega
          have hF : (⟨s.next, lv, s8, kx, ky⟩ : L.Fi) = L.tab s.next (j.lev + 1) M := by
            unfold L.tab
            rw [hlv, hs8, hmm.out]
            have e5 : M.head? = some ⟨kx, vx, ex⟩ := by rw [List.head?_eq_getElem?]; exact hx0
            have e6 : M.getLast? = some ⟨ky, vy, ey⟩ := by
              rw [List.getLast?_eq_getElem?, show M.length - 1 = mp by have := hmm.out; omega]
              exact hy0
            rw [e5, e6]
            rfl
          replace hF := Lib.hid hF
          replace hmp := Lib.hid hmp
          replace hlv := Lib.hid hlv
          replace hs8 := Lib.hid hs8
          have hM0 := Lib.hid hM0
          clear hx0 hy0 hMl
          apply wp_region_rel_below_tail 22 [[(16, none)], [(3, none)], [(69, some 1)], [(5, none)], [(71, some 3)], [(72, some 4)], [(15, none)], [(74, some 6)], [(75, some 7)], [(15, none)], [(77, some 9)], [(78, some 10)], [(79, some 11)], [(15, none)], [(15, none)], [(82, some 14)], [(83, some 15)], [(81, some 13), (84, some 16)], [(85, some 17)], [(86, some 18)], [(70, some 2), (73, some 5), (76, some 8), (80, some 12), (87, some 19)], [(88, some 20)]] [eqv _, eqv _, eqv _, eqv _, eqv _, eqv _, eqv _, eqv _, eqv _, eqv _, eqv _, eqv _, eqv _, eqv _, eqv _, eqv _, eqv _, eqv _, eqv _, eqv _, eqv _, blkRow 1 1 #[.int .i64 (s.next : Int), .int .i64 (lv : Int), .int .i64 (s8 : Int), .string ⟨kx.toArray⟩, .string ⟨ky.toArray⟩] 33] (by kernel_rfl) (by kernel_rfl)
          case hobs =>
            refine ⟨?_, ?_⟩
            · rintro L a1 w1 hT - - ⟨h16, -⟩   -- 0: Op.move t16
              have e16 : a1.tmps.getD 16 undef = _ := h16
              have f16 := getD_form e16
              clear h16
              go_simp; exact left_intro rfl (Stp.refl _) trivial
            refine ⟨?_, ?_⟩
            · rintro L a1 w1 hT - - ⟨h3, -⟩   -- 1: Op.fieldAddr 29 t3 0
              have e3 : a1.tmps.getD 3 undef = _ := h3
              have f3 := getD_form e3
              clear h3
              go_simp; exact left_intro rfl (Stp.refl _) trivial
            refine ⟨?_, ?_⟩
            · rintro L a1 w1 hT - - ⟨h69, -⟩   -- 2: Op.load 3 t69
              have e69 : a1.tmps.getD 69 undef = _ := h69
              have f69 := getD_form e69
              clear h69
              have c := (B0a.drew.at_ hT).cellv (i := 0) (v := .int .i64 (s.next : Int)) rfl
              go_simp; exact left_intro rfl (Stp.refl _) trivial
            refine ⟨?_, ?_⟩
            · rintro L a1 w1 hT - - ⟨h5, -⟩   -- 3: Op.fieldAddr 39 t5 0
              have e5 : a1.tmps.getD 5 undef = _ := h5
              have f5 := getD_form e5
              clear h5
              go_simp; exact left_intro rfl (Stp.refl _) trivial
            refine ⟨?_, ?_⟩
            · rintro L a1 w1 hT - - ⟨h71, -⟩   -- 4: Op.load 3 t71
              have e71 : a1.tmps.getD 71 undef = _ := h71
              have f71 := getD_form e71
              clear h71
              have c := (B1a.drew.at_ hT).cellv (i := 0) (v := .int .i64 (j.lev : Int)) rfl
              go_simp; exact left_intro rfl (Stp.refl _) trivial
            refine ⟨?_, ?_⟩
            · rintro L a1 w1 hT - - ⟨h72, -⟩   -- 5: Op.binOp BinOp.add 3 t72 (const (1:i64)) 3
              have e72 : a1.tmps.getD 72 undef = _ := h72
              have f72 := getD_form e72
              clear h72
              go_simp; exact left_intro rfl (Stp.refl _) trivial
            refine ⟨?_, ?_⟩
            · rintro L a1 w1 hT - - ⟨h15, -⟩   -- 6: Op.move t15
              have e15 : a1.tmps.getD 15 undef = _ := h15
              have f15 := getD_form e15
              clear h15
              go_simp; exact left_intro rfl (Stp.refl _) trivial
            refine ⟨?_, ?_⟩
            · rintro L a1 w1 hT - - ⟨h74, -⟩   -- 7: Op.call { builtin len, args := #[t74], argTypes := #[23] }
              have e74 : a1.tmps.getD 74 undef = _ := h74
              have f74 := getD_form e74
              clear h74
              go_simp; exact left_intro rfl (Stp.refl _) trivial
            refine ⟨?_, ?_⟩
            · rintro L a1 w1 hT - - ⟨h75, -⟩   -- 8: Op.binOp BinOp.mul 3 (const (8:i64)) t75 3
              have e75 : a1.tmps.getD 75 undef = _ := h75
              have f75 := getD_form e75
              clear h75
              go_simp; exact left_intro rfl (Stp.refl _) trivial
            refine ⟨?_, ?_⟩
            · rintro L a1 w1 hT - - ⟨h15, -⟩   -- 9: Op.move t15
              have e15 : a1.tmps.getD 15 undef = _ := h15
              have f15 := getD_form e15
              clear h15
              go_simp; exact left_intro rfl (Stp.refl _) trivial
            refine ⟨?_, ?_⟩
            · rintro L a1 w1 hT - - ⟨h77, -⟩   -- 10: Op.indexAddr 23 t77 (const (0:i64))
              have e77 : a1.tmps.getD 77 undef = _ := h77
              have f77 := getD_form e77
              clear h77
              go_simp; exact left_intro rfl (Stp.refl _) trivial
            refine ⟨?_, ?_⟩
            · rintro L a1 w1 hT - - ⟨h78, -⟩   -- 11: Op.fieldAddr 26 t78 0
              have e78 : a1.tmps.getD 78 undef = _ := h78
              have f78 := getD_form e78
              clear h78
              go_simp; exact left_intro rfl (Stp.refl _) trivial
            refine ⟨?_, ?_⟩
            · rintro L a1 w1 hT - - ⟨h79, -⟩   -- 12: Op.load 9 t79
              have e79 : a1.tmps.getD 79 undef = _ := h79
              have f79 := getD_form e79
              clear h79
              have c : w1.cell? ⟨gm, om, none⟩ = some (.string ⟨kx.toArray⟩) := range_below hT hgm cX 0 _ rfl
              go_simp; exact left_intro rfl (Stp.refl _) trivial
            refine ⟨?_, ?_⟩
            · rintro L a1 w1 hT - - ⟨h15, -⟩   -- 13: Op.move t15
              have e15 : a1.tmps.getD 15 undef = _ := h15
              have f15 := getD_form e15
              clear h15
              go_simp; exact left_intro rfl (Stp.refl _) trivial
            refine ⟨?_, ?_⟩
            · rintro L a1 w1 hT - - ⟨h15, -⟩   -- 14: Op.move t15
              have e15 : a1.tmps.getD 15 undef = _ := h15
              have f15 := getD_form e15
              clear h15
              go_simp; exact left_intro rfl (Stp.refl _) trivial
            refine ⟨?_, ?_⟩
            · rintro L a1 w1 hT - - ⟨h82, -⟩   -- 15: Op.call { builtin len, args := #[t82], argTypes := #[23] }
              have e82 : a1.tmps.getD 82 undef = _ := h82
              have f82 := getD_form e82
              clear h82
              go_simp; exact left_intro rfl (Stp.refl _) trivial
            refine ⟨?_, ?_⟩
            · rintro L a1 w1 hT - - ⟨h83, -⟩   -- 16: Op.binOp BinOp.sub 3 t83 (const (1:i64)) 3
              have e83 : a1.tmps.getD 83 undef = _ := h83
              have f83 := getD_form e83
              clear h83
              go_simp; exact left_intro rfl (Stp.refl _) trivial
            refine ⟨?_, ?_⟩
            · rintro L a1 w1 hT - - ⟨h81, h84, -⟩   -- 17: Op.indexAddr 23 t81 t84
              have e81 : a1.tmps.getD 81 undef = _ := h81
              have f81 := getD_form e81
              have e84 : a1.tmps.getD 84 undef = _ := h84
              have f84 := getD_form e84
              clear h81 h84
              go_simp; exact left_intro rfl (Stp.refl _) trivial
            refine ⟨?_, ?_⟩
            · rintro L a1 w1 hT - - ⟨h85, -⟩   -- 18: Op.fieldAddr 26 t85 0
              have e85 : a1.tmps.getD 85 undef = _ := h85
              have f85 := getD_form e85
              clear h85
              go_simp; exact left_intro rfl (Stp.refl _) trivial
            refine ⟨?_, ?_⟩
            · rintro L a1 w1 hT - - ⟨h86, -⟩   -- 19: Op.load 9 t86
              have e86 : a1.tmps.getD 86 undef = _ := h86
              have f86 := getD_form e86
              clear h86
              have c : w1.cell? ⟨gm, om + mp * 3, none⟩ = some (.string ⟨ky.toArray⟩) := range_below hT hgm cY 0 _ rfl
              go_simp; exact left_intro rfl (Stp.refl _) trivial
            refine ⟨?_, ?_⟩
            · rintro L a1 w1 hT - - ⟨h70, h73, h76, h80, h87, -⟩   -- 20: Op.build 33 #[(0, t70), (1, t73), (2, t76), (3, t80), (4, t87)]
              have e70 : a1.tmps.getD 70 undef = _ := h70
              have f70 := getD_form e70
              have e73 : a1.tmps.getD 73 undef = _ := h73
              have f73 := getD_form e73
              have e76 : a1.tmps.getD 76 undef = _ := h76
              have f76 := getD_form e76
              have e80 : a1.tmps.getD 80 undef = _ := h80
              have f80 := getD_form e80
              have e87 : a1.tmps.getD 87 undef = _ := h87
              have f87 := getD_form e87
              clear h70 h73 h76 h80 h87
              go_simp; exact left_intro rfl (Stp.refl _) trivial
            refine ⟨?_, ?_⟩
            · rintro L a1 w1 hT - - ⟨h88, -⟩   -- 21: Op.buildSlice 27 1 #[(0, t88)]
              have e88 : a1.tmps.getD 88 undef = _ := h88
              have f88 := getD_form e88
              clear h88
              go_simp; exact left_intro (T := Stp) (Ph := fun _ _ _ => True) (blkRow_new _ _ _ _ _) (Stp.alloc _ _) trivial
            trivial
          case hmono => repeat (first | exact trivial | refine ⟨fun _ _ _ _ h => h, ?_⟩ | refine ⟨mono_blkRow _ _ _ _, ?_⟩)
          case hend =>
            intro w2 hT
            rintro _ rfl _ rfl _ rfl _ rfl _ rfl _ rfl _ rfl _ rfl _ rfl _ rfl _ rfl _ rfl _ rfl _ rfl _ rfl _ rfl _ rfl _ rfl _ rfl _ rfl _ rfl v89 hb89
            change wpList _ _ _ _ _ _
            simp only [Act.put, List.setIfInBounds_toArray, List.set_cons_succ, List.set_cons_zero, List.drop_succ_cons, List.drop_zero]
            skip
            obtain ⟨b, rfl, Bb⟩ := hb89
            have r16b := FRow.at_ r16 hT
            have B0b := B0a.at_ hT
            have B2b := B2a.at_ hT
            have hrow9b := hrow9a.at_ hT
            have hr15b := ERow.at_ hr15a hT
            have hB7 := hB6.trans (hT.mono hB6.size)
            have qx : ∀ (j : Nat) (u : Value), ([fiC (⟨s.next, lv, s8, kx, ky⟩ : L.Fi)] : List (List Value)).flatten[j]? = some u → w2.cell? ((⟨b, 0, none⟩ : Addr).add j) = some u := fun j u hj => by
              rw [Addr.add_mid, Bb.cell]
              simpa [fiC] using hj
            have ox := one_fiC (⟨s.next, lv, s8, kx, ky⟩ : L.Fi)
            have hlm : ((([] : List L.Fi).map fiC).length + 1) * 56 ≤ 140737488355328 := by simp
            have n0 := blk_rown_ne B0b r16b (by decide)
            have n2 := blk_rown_ne B2b r16b (by decide)
            have n9 := Row1.ne_N hrow9b r16b (by decide)
            have n15 := RowN.ne_ hr15b r16b (by decide)
            clear hT B0a B1a B2a hrow9a hr15a r16 hB6 cX cY hgm Bb q1 q2 q3 hwj hw8 hwl
            go_upto_region 17 with (at_builtin; refine wpList_append_rowN rfl info_fi (.tmp 68) (.tmp 89) 27 rfl Try.underlying27 rfl r16b ⟨b, 0, none⟩ 1 1 [fiC (⟨s.next, lv, s8, kx, ky⟩ : L.Fi)] rfl rfl (len_fiC _) qx ox hlm ?_; intro v3 w3 hrow3 hg3 hr3; have B0c := B0b.grown hg3 n0; have B2c := B2b.grown hg3 n2; have hrow9c := hrow9b.grown hg3 n9; have hr15c := RowN.grown hr15b hg3 n15; have hB8 := below_grown_own hB7 hB7.size hg3 (.inr ⟨g16, hg16, rfl⟩))
            obtain ⟨A6, m6, c6, rfl, hm6, r16c⟩ := frow_open (show FRow w3 v3 [(⟨s.next, lv, s8, kx, ky⟩ : L.Fi)] from hrow3)
            replace hm6 := Lib.hid hm6
            have hr15c : ERow w3 (.slice (some ⟨gm, om, none⟩) mm cm) M := hr15c
            clear B0b B2b hrow9b hr15b hB7 qx ox hlm n0 n2 n9 n15 hg3 hr3 hrow3 r16b
            obtain ⟨z0, z1, z2, -, -, -⟩ := free3 B0c
            go_upto_region 19 with (fail)
            have hvl : vs.length ≤ 100 := by
              have h1 := hHI.out.next
              have h2 := hHI.out.nextB
              have h3 := hr.1
              omega
            have r98 : Row1 (w3.alloc (.cells #[] 23)) 23 (.slice (some ⟨w3.heap.size, 0, none⟩) 0 0) [] := Row1.build w3 _ [] #[] 0 rfl rfl (by omega)
            have hb98 := (Below.refl w3.heap.size w3).alloc (Nat.le_refl _) (.cells #[] 23)
            have hvW := (hv.at_ hB8).alloc (.cells #[] 23)
            have hv1 := hr.one
            have hl1 : (([] : List Value).length + vs.length) * 24 ≤ 140737488355328 := by show (0 + vs.length) * 24 ≤ _; omega
            have hl2 : ((([] : List Value) ++ vs).length + 1) * 24 ≤ 140737488355328 := by show (vs.length + 1) * 24 ≤ _; omega
            have ox : ∀ u ∈ [Value.slice (some ⟨gm, om, none⟩) mm cm], u.oneCell' = true := by
              intro u hu
              rw [List.mem_singleton.1 hu]
              rfl
            clear z0 z1 z2
            go_upto_region 20 with (at_builtin; first | (refine wpList_append_rows rfl info_sl (.tmp 98) (.tmp 99) 22 rfl und_ee rfl r98 rfl hvW hv1 hl1 ?_; intro v4 w4 r4 hg4 hr4; have hb4 := below_grown_own hb98 hb98.size hg4 (.inr ⟨_, Nat.le_refl _, rfl⟩); have o4 := own_later (.inr ⟨_, Nat.le_refl _, rfl⟩) hb98.size hr4; have r4a := r4.alloc (.cells #[.slice (some ⟨gm, om, none⟩) mm cm] 23); have hb4a := hb4.alloc hb4.size (.cells #[.slice (some ⟨gm, om, none⟩) mm cm] 23); have qx := new_cells w4 [.slice (some ⟨gm, om, none⟩) mm cm] _ rfl 23) | (refine wpList_append_row rfl info_sl (.tmp 100) (.tmp 102) 22 rfl und_ee rfl r4a ⟨w4.heap.size, 0, none⟩ 1 1 [.slice (some ⟨gm, om, none⟩) mm cm] rfl rfl qx ox hl2 ?_; intro v5 w5 r5 hg5 hr5; have hb5 := below_grown_own hb4a hb4a.size hg5 o4))
            obtain ⟨At2, mt2, ct2, rfl, hmt2, r5⟩ := row1_open r5
            replace hmt2 := Lib.hid hmt2
            have hB9 := hB8.trans (hb5.mono hB8.size)
            have B0d := B0c.at_ hb5
            have B2d := B2c.at_ hb5
            have hrow9d := hrow9c.at_ hb5
            have hr15d := hr15c.at_ hb5
            have r16d := FRow.at_ r16c hb5
            clear hb4 hb4a r4 r4a hg4 hr4 o4 qx hg5 hr5 hb5 hb98 r98 hvW hl1 hl2 ox hB8 B0c B2c hrow9c hr15c r16c
            have hI1 := L.job_some hHI.out hHj.out (by rw [← hM.out]; exact hM0.out)
            rw [← hM.out, ← hF.out] at hI1
            have AP := apply_any s (.slice S s.files.length sc) (.slice A9 m9 c9) (.slice A6 m6 c6) G [(⟨s.next, lv, s8, kx, ky⟩ : L.Fi)] s.log w5 (h.at_ hB9) hrow9d.reads r16d.reads (hHI.out.good (by omega) (by omega)) (by omega) (by rw [hG.out]; exact L.gone_any hHj.out) (by
              intro f hf
              rw [List.mem_singleton.1 hf]
              have := hHI.out.nextB
              show s.next < _
              omega) (by have := hlen.out; simp; omega) (by rw [hG.out]; exact hI1.good (by omega) (by omega))
            rw [← hG.out] at hI1
            obtain ⟨sx, hs1⟩ : ∃ s1, s1 = L.applied s G [(⟨s.next, lv, s8, kx, ky⟩ : L.Fi)] s.log := ⟨_, rfl⟩
            rw [← hs1] at hI1 AP
            unfold stV at AP
            replace hI1 := Lib.hid hI1
            replace AP := Lib.hid AP
            clear hs1 r16d hrow9d
            obtain ⟨y0, y1, y2, -, -, -⟩ := free3 B0d
            have hr15d := Lib.hid hr15d
            go_wp2_with (go_at_call 7; refine AP.out.mono ?_; rintro e w7 ⟨v8, rfl, hr8, hb7⟩; obtain ⟨A8, m8, c8, rfl, hm8, hr8⟩ := frow_open hr8; replace hm8 := Lib.hid hm8; have X7 := Blk.new w7 #[.int .i64 (sx.next : Int), .int .i64 (sx.log : Int), .slice A8 m8 c8] 29; have B2y := (B2d.at_ hb7).alloc (.cells #[.int .i64 (sx.next : Int), .int .i64 (sx.log : Int), .slice A8 m8 c8] 29); have hr8a := FRow.alloc hr8 (.cells #[.int .i64 (sx.next : Int), .int .i64 (sx.log : Int), .slice A8 m8 c8] 29); have hBx := hB9.trans (hb7.mono hB9.size); have hBy := hBx.alloc hBx.size (.cells #[.int .i64 (sx.next : Int), .int .i64 (sx.log : Int), .slice A8 m8 c8] 29); obtain ⟨x0, x1, x2, -, -, -⟩ := free3 X7; obtain ⟨t0, t1, t2, s0, s1, s2⟩ := free3 B2y; obtain ⟨b2, o2⟩ := put3 B2y (.int .i64 (sx.next : Int)) (.int .i64 (sx.log : Int)) (.slice A8 m8 c8) _ rfl; have hr9 := frow_only hr8a B2y (by decide) o2; have hBz := o2.below hBy (by omega); have hvn := row1_only ((r5.at_ hb7).alloc (.cells #[.int .i64 (sx.next : Int), .int .i64 (sx.log : Int), .slice A8 m8 c8] 29)) B2y (by decide) o2; have hrM := RowN.only (ERow.alloc (ERow.at_ hr15d.out hb7) (.cells #[.int .i64 (sx.next : Int), .int .i64 (sx.log : Int), .slice A8 m8 c8] 29)) B2y (by decide) o2; have hRz := (hrr.out.at_ hBz).snoc hrM)
            exact bodyPost_ret (v := .tuple #[.agg #[.int .i64 (sx.next : Int), .int .i64 (sx.log : Int), .slice A8 m8 c8], .slice At2 mt2 ct2, .bool true]) (results_blk3 (by rfl) _ b2 _ _ _ (by rfl) (by rfl) (by rfl) Try.underlying29 (by rfl) (by kernel_rfl)) rfl ⟨sx, T ++ [M], .slice A8 m8 c8, .slice At2 mt2 ct2, vs ++ [.slice (some ⟨gm, om, none⟩) mm cm], rfl, hI1.out, hr9, hvn, hRz, hBz⟩
end Go.Proofs.Ytnfabofkfnmplaa
