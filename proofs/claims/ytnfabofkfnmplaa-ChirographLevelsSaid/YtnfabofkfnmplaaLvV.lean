/- The walk of the law ChirographLevels. -/
import Derived.Test.YtnfabofkfnmplaaLvH
import Derived.Test.YtnfabofkfnmplaaLvS
import Derived.Test.YtnfabofkfnmplaaLvP
import Derived.Deep.CutRange
namespace Go.Proofs.Ytnfabofkfnmplaa
open Go.RowKit

/-- A new variable, wherever it lies. -/
def ptrNew (N : Nat) (cs : Array Value) (t : TypeId) : Value → World → Prop := fun v w => ∃ b, v = .pointer (some ⟨b, 0, none⟩) ∧ Blk w b cs t ∧ N ≤ b
theorem mono_ptrNew (N : Nat) (cs : Array Value) (t : TypeId) : ∀ v w w', Stp w w' → ptrNew N cs t v w → ptrNew N cs t v w' := fun _ _ _ hs ⟨b, e, h, hn⟩ => ⟨b, e, h.at_ hs, hn⟩
theorem merge_head : L.merge [[⟨[97], [], false⟩], [⟨[97], [], true⟩]] true = [⟨[97], [], false⟩] := by kernel_rfl
theorem head_world (w : World) : ∀ W, W = ((w.alloc (.cells #[.string ⟨#[97]⟩, .string ⟨#[]⟩, .bool false] 26)).alloc (.cells #[.string ⟨#[97]⟩, .string ⟨#[]⟩, .bool true] 26)).alloc (.cells #[.slice (some ⟨w.heap.size, 0, none⟩) 1 1, .slice (some ⟨w.heap.size + 1, 0, none⟩) 1 1] 23) →
      ERow W (.slice (some ⟨w.heap.size, 0, none⟩) 1 1) [⟨[97], [], false⟩] ∧ ERow W (.slice (some ⟨w.heap.size + 1, 0, none⟩) 1 1) [⟨[97], [], true⟩] ∧ Row1 W 23 (.slice (some ⟨w.heap.size + 1 + 1, 0, none⟩) 2 2) [.slice (some ⟨w.heap.size, 0, none⟩) 1 1, .slice (some ⟨w.heap.size + 1, 0, none⟩) 1 1] ∧ Below w.heap.size w W := by
  rintro _ rfl
  have a1 : ERow (w.alloc (.cells #[.string ⟨#[97]⟩, .string ⟨#[]⟩, .bool false] 26)) (.slice (some ⟨w.heap.size, 0, none⟩) 1 1) [⟨[97], [], false⟩] := RowN.build w _ 3 [enC ⟨[97], [], false⟩] _ 1 rfl (len_enC _) rfl (by omega)
  have a2 : ERow ((w.alloc (.cells #[.string ⟨#[97]⟩, .string ⟨#[]⟩, .bool false] 26)).alloc (.cells #[.string ⟨#[97]⟩, .string ⟨#[]⟩, .bool true] 26)) (.slice (some ⟨(w.alloc (.cells #[.string ⟨#[97]⟩, .string ⟨#[]⟩, .bool false] 26)).heap.size, 0, none⟩) 1 1) [⟨[97], [], true⟩] := RowN.build _ _ 3 [enC ⟨[97], [], true⟩] _ 1 rfl (len_enC _) rfl (by omega)
  have a3 := Row1.build ((w.alloc (.cells #[.string ⟨#[97]⟩, .string ⟨#[]⟩, .bool false] 26)).alloc (.cells #[.string ⟨#[97]⟩, .string ⟨#[]⟩, .bool true] 26)) 23 [.slice (some ⟨w.heap.size, 0, none⟩) 1 1, .slice (some ⟨w.heap.size + 1, 0, none⟩) 1 1] _ 2 rfl rfl (by omega)
  rw [World.size_alloc] at a2
  rw [World.size_alloc, World.size_alloc] at a3
  have b1 := below_alloc1 w (.cells #[.string ⟨#[97]⟩, .string ⟨#[]⟩, .bool false] 26)
  have b2 := b1.alloc b1.size (.cells #[.string ⟨#[97]⟩, .string ⟨#[]⟩, .bool true] 26)
  exact ⟨(a1.alloc _).alloc _, a2.alloc _, a3, b2.alloc b2.size _⟩
theorem start_world (w : World) : ∀ W, W = ((w.alloc (.cells #[.int .i64 0, .int .i64 0, .slice none 0 0] 29)).alloc (.cells #[] 23)).alloc (.cells #[] 26) →
    Blk W w.heap.size #[.int .i64 0, .int .i64 0, .slice none 0 0] 29 ∧ Row1 W 23 (.slice (some ⟨w.heap.size + 1, 0, none⟩) 0 0) [] ∧ ERow W (.slice (some ⟨w.heap.size + 1 + 1, 0, none⟩) 0 0) [] ∧ Below w.heap.size w W := by
  rintro _ rfl
  have a1 := Blk.new w #[.int .i64 0, .int .i64 0, .slice none 0 0] 29
  have a2 := Row1.build (w.alloc (.cells #[.int .i64 0, .int .i64 0, .slice none 0 0] 29)) 23 [] #[] 0 rfl rfl (by omega)
  have a3 : ERow (((w.alloc (.cells #[.int .i64 0, .int .i64 0, .slice none 0 0] 29)).alloc (.cells #[] 23)).alloc (.cells #[] 26)) (.slice (some ⟨((w.alloc (.cells #[.int .i64 0, .int .i64 0, .slice none 0 0] 29)).alloc (.cells #[] 23)).heap.size, 0, none⟩) 0 0) [] := RowN.build _ _ 3 [] #[] 0 rfl (by simp) rfl (by omega)
  rw [World.size_alloc] at a2
  rw [World.size_alloc, World.size_alloc] at a3
  have b1 := below_alloc1 w (.cells #[.int .i64 0, .int .i64 0, .slice none 0 0] 29)
  have b2 := b1.alloc b1.size (.cells #[] 23)
  exact ⟨(a1.alloc _).alloc _, a2.alloc _, a3, b2.alloc b2.size _⟩
namespace L
def okE (x : En) : Bool := decide (0 < x.key.length) && decide (x.key.length ≤ 100)
theorem okE_key {x : En} (h : okE x = true) : KeyOk x.key := by
  unfold okE at h
  simpa [KeyOk] using h
theorem puts_snoc (acc : List En) (x : En) (W : List En) : puts (acc ++ [x]) W = put x (puts acc W) := by
  unfold puts
  rw [List.foldl_append]
  rfl
end L
/-- Pick's answer in one form. -/
theorem pick_to (s : L.St) (sv : Value) (cnt sz : Nat) (w : World) (h : FRead w sv s.files) (hG : L.Good s) (hl : s.files.length ≤ 1000) (hc1 : 1 ≤ cnt) (hc2 : cnt ≤ 8) (hs1 : 1 ≤ sz) (hs2 : sz ≤ 2000) :
    Calls Try.prog 8 #[.agg #[.int .i64 (s.next : Int), .int .i64 (s.log : Int), sv], .agg #[.int .i64 (cnt : Int), .int .i64 (sz : Int)]] w fun e w' => ∃ (ok : Bool) (jl : Nat) (A : Option Addr) (m c : Nat) (A' : Option Addr) (m' c' : Nat), e = .returned (.tuple #[.agg #[.int .i64 (jl : Int), .slice A m c, .slice A' m' c'], .bool ok]) ∧
      Hid (ok = true → ∃ j, L.JobOk s j ∧ j.lev = jl ∧ Row1 w' 3 (.slice A m c) (j.from_.map fun f => intV f.num) ∧ Row1 w' 3 (.slice A' m' c') (j.to_.map fun f => intV f.num)) ∧ Below w.heap.size w w' := by
  refine (pick_any s sv cnt sz w h hG hl hc1 hc2 hs1 hs2).mono ?_
  rintro e w' ⟨h1 | ⟨j, uf, ut, hj, rfl, hru, hrt⟩, hb⟩
  · exact ⟨false, 0, none, 0, 0, none, 0, 0, h1, Lib.hid (fun e => by cases e), hb⟩
  · obtain ⟨A, m, c, rfl⟩ := row1_form hru
    obtain ⟨A', m', c', rfl⟩ := row1_form hrt
    exact ⟨true, j.lev, A, m, c, A', m', c', rfl, Lib.hid (fun _ => ⟨j, hj, rfl, hru, hrt⟩), hb⟩
set_option maxRecDepth 100000 in
set_option maxHeartbeats 8000000 in
theorem levels_any (LS : List (List L.En)) (vls : List Value) (lv : Value) (cnt sz : Int) (w : World) (h : SRead w lv vls) (hr : ReadAll w vls LS) :
    Calls Try.prog 3 #[lv, .int .i64 cnt, .int .i64 sz] w fun e w' => e = .returned (.bool true) ∧ Below w.heap.size w w' := by
  obtain ⟨A0, N0, c0, rfl, hN0, h⟩ : ∃ A n c, lv = .slice A n c ∧ n = vls.length ∧ SRead w (.slice A n c) vls := by
    obtain ⟨A, c, rfl, h⟩ := sread_form h
    exact ⟨A, _, c, rfl, rfl, h⟩
  replace hN0 := Lib.hid (hN0.trans hr.1)
  obtain ⟨r1, r2, r3, hB⟩ := head_world w _ rfl
  have LI := lists_any _ [[⟨[97], [], false⟩], [⟨[97], [], true⟩]] _ true _ r3.reads (((ReadAll.nil _).snoc r1.reads).snoc r2.reads) (by simp) (by show (2 : Nat) ≤ _; omega)
  rw [merge_head] at LI
  replace LI := Lib.hid LI
  clear r1 r2 r3
  go_enter Try.func3, Try.ntmps3
  go_upto_region 3 with (go_at_call 4; refine LI.out.mono ?_; rintro e w2 ⟨v, rfl, hr2, -, hb2⟩; obtain ⟨A2, m2, c2, rfl, hm2, -⟩ := erow_open hr2; replace hm2 : m2 = 1 := hm2; subst hm2; have hB2 := hB.trans (hb2.mono hB.size))
  clear LI hb2 hB hr2
  by_cases g1 : cnt < 1
  · have d1 : decide (cnt < 1) = true := decide_eq_true g1
    go_wp2
    go_ret
    exact ⟨rfl, hB2⟩
  by_cases g2 : 8 < cnt
  · have d1 : decide (cnt < 1) = false := decide_eq_false g1
    have d2 : decide (8 < cnt) = true := decide_eq_true g2
    go_wp2
    go_ret
    exact ⟨rfl, hB2⟩
  by_cases g3 : sz < 1
  · have d1 : decide (cnt < 1) = false := decide_eq_false g1
    have d2 : decide (8 < cnt) = false := decide_eq_false g2
    have d3 : decide (sz < 1) = true := decide_eq_true g3
    go_wp2
    go_ret
    exact ⟨rfl, hB2⟩
  by_cases g4 : 2000 < sz
  · have d1 : decide (cnt < 1) = false := decide_eq_false g1
    have d2 : decide (8 < cnt) = false := decide_eq_false g2
    have d3 : decide (sz < 1) = false := decide_eq_false g3
    have d4 : decide (2000 < sz) = true := decide_eq_true g4
    go_wp2
    go_ret
    exact ⟨rfl, hB2⟩
  have d1 : decide (cnt < 1) = false := decide_eq_false g1
  have d2 : decide (8 < cnt) = false := decide_eq_false g2
  have d3 : decide (sz < 1) = false := decide_eq_false g3
  have d4 : decide (2000 < sz) = false := decide_eq_false g4
  go_upto_region 5 with (fail)
  clear d1 d2 d3 d4
  obtain ⟨cn, rfl⟩ : ∃ n : Nat, cnt = (n : Int) := ⟨cnt.toNat, by omega⟩
  obtain ⟨sn, rfl⟩ : ∃ n : Nat, sz = (n : Int) := ⟨sz.toNat, by omega⟩
  have hcn := Lib.hid (show 1 ≤ cn ∧ cn ≤ 8 ∧ 1 ≤ sn ∧ sn ≤ 2000 by omega)
  clear g1 g2 g3 g4
  obtain ⟨B7, r8, r9, hB0⟩ := start_world w2 _ rfl
  have hB := hB2.trans (hB0.mono hB2.size)
  have hb7 := Lib.hid hB2.size
  have hI0 := Lib.hid L.Inv.start
  go_wp2
  refine wp_world fun W5 hW5 => ?_
  rw [← hW5] at B7 r8 r9 hB
  clear hW5 hB0 hB2
  generalize w2.heap.size = b7 at *
  go_loopw [8, 9, 10] (fun tb wt i wr => ∃ (k : Nat) (s : L.St) (T : List (List L.En)) (W : List L.En) (sv : Value) (vs : List Value), k ≤ LS.length ∧ k ≤ 8 ∧ i = .int .i64 (k : Int) ∧ Hid (L.Inv k (7 * k) s T W ∧ W.length ≤ 20 * k) ∧ Blk wr b7 #[.int .i64 (s.next : Int), .int .i64 (s.log : Int), sv] 29 ∧ FRow wr sv s.files ∧ Row1 wr 23 tb vs ∧ RowAll wr vs T ∧ ERow wr wt W ∧ Below w.heap.size w wr) (fun _ _ i _ => 8 - (intOf i).toNat)
  case atStart => exact ⟨0, ⟨0, 0, []⟩, [], [], _, [], Nat.zero_le _, by omega, rfl, Lib.hid ⟨hI0.out, by simp⟩, B7, RowN.nil _ _ _, r8, RowAll.nil _, r9, hB⟩
  case round =>
    clear B7 r8 r9 hI0 hB
    obtain ⟨k, s, T, W, sv, vs, hk1, hk8, rfl, hI, B7, hfs, r8, hT, r9, hB⟩ := hrel
    obtain ⟨Sv, ms, cv, rfl, hms, hfs⟩ := frow_open hfs
    replace hms := Lib.hid hms
    obtain ⟨A8, m8, c8, rfl, hm8, r8⟩ := row1_open r8
    obtain rfl : m8 = s.next := hm8.trans (hT.1.trans hI.out.1.next)
    clear hm8
    by_cases hmk : k < N0 ∧ k < 8
    · obtain ⟨hm1, hm2⟩ := hmk
      have q0 : (0 : Int) ≤ (k : Int) := by omega
      have d1 : decide ((k : Int) < (N0 : Int)) = true := decide_eq_true (by omega)
      have d1' : decide (k < N0) = true := decide_eq_true hm1
      have d2 : decide ((k : Int) < 8) = true := decide_eq_true (by omega)
      have d2' : decide (k < 8) = true := decide_eq_true hm2
      have q1 : (k : Int) < (N0 : Int) := by omega
      have hw1 : IntKind.i64.wrap ((k : Int) + 1) = ((k + 1 : Nat) : Int) := by rw [IntWalk.i64_in _ (by omega)]; omega
      obtain ⟨LK, hLK⟩ : ∃ l, LS[k]? = some l := ⟨_, List.getElem?_eq_getElem (by have := hN0.out; omega)⟩
      obtain ⟨x, hx⟩ : ∃ x, vls[k]? = some x := ⟨_, List.getElem?_eq_getElem (by rw [hr.1]; have := hN0.out; omega)⟩
      have hE := hr.2 _ _ _ hx hLK
      obtain ⟨Ax, nx, cx, rfl⟩ : ∃ A n c, x = .slice A n c := by
        obtain ⟨A, c, e, _⟩ := eread_open hE
        exact ⟨_, _, _, e⟩
      obtain ⟨g0, o0, rfl, hg0, cL⟩ : ∃ g o, A0 = some ⟨g, o, none⟩ ∧ g < w.heap.size ∧ w.cell? ⟨g, o + k, none⟩ = some (.slice Ax nx cx) := by
        obtain ⟨A', c', e, _, h9⟩ := h
        injection e with e1 _ _
        subst e1
        rcases h9 with h9 | ⟨g, o, h1, h2, h3⟩
        · rw [h9] at hx; cases hx
        · exact ⟨g, o, h1, h2, h3 k _ hx⟩
      have cL2 : wr.cell? ⟨g0, o0 + k, none⟩ = some (.slice Ax nx cx) := (hB.cell (p := ⟨g0, o0 + k, none⟩) hg0).trans cL
      have RI := Lib.hid (rising_any LK _ 20 wr (hE.at_ hB) (by omega))
      clear hE hx hLK cL hg0 h hr
      go_upto_region 12 with (go_at_call 5; refine RI.out.mono ?_; rintro e w3 ⟨v11, rfl, r11, -, hb3⟩; obtain ⟨A11, m11, c11, rfl, hm11, r11⟩ := erow_open r11; replace hm11 := Lib.hid hm11)
      clear RI cL2 d1 d1' d2 d2' q1
      have hLu := L.rising_up LK 20
      have hLl := L.rising_len LK 20
      generalize L.rising LK 20 = LR at *
      replace hLu := Lib.hid hLu
      replace hLl := Lib.hid hLl
      have hUW := Lib.hid hI.out.1.upW
      have hWl : W.length ≤ 200 := by have := hI.out.2; omega
      have B7a := B7.at_ hb3
      have hfsa := FRow.at_ hfs hb3
      have r8a := r8.at_ hb3
      have hTa := hT.at_ hb3
      have r9a := ERow.at_ r9 hb3
      have hB3 := hB.trans (hb3.mono hB.size)
      clear B7 hfs r8 hT r9 hB hb3
      have rk : ERow (w3.alloc (.cells #[] 26)) (.slice (some ⟨w3.heap.size, 0, none⟩) 0 0) [] := RowN.build w3 _ 3 [] #[] 0 rfl (by simp) rfl (by omega)
      have hbk := below_alloc1 w3 (.cells #[] 26)
      have r9b := ERow.alloc r9a (.cells #[] 26)
      have hap : ∀ wt, ERow w3 wt W → ∀ g, wt.ownBlock = some g → (Value.slice (some ⟨w3.heap.size, 0, none⟩) 0 0).ownBlock ≠ some g := fun wt hr9 g hg hc => by
        have h1 := RowN.lt hr9 hg
        have h2 : some w3.heap.size = some g := hc
        injection h2 with h2
        omega
      have hap := hap _ r9a
      go_wp2
      refine wp_world fun W4 hW4 => ?_
      rw [← hW4] at rk hbk r9b
      clear hW4
      have hokc : (Value.slice (some ⟨w3.heap.size, 0, none⟩) 0 0).ownBlock = none ∨ ∃ k, w3.heap.size ≤ k ∧ (Value.slice (some ⟨w3.heap.size, 0, none⟩) 0 0).ownBlock = some k := .inr ⟨_, Nat.le_refl _, rfl⟩
      go_loopw [9, 12, 73] (fun wt kp i wr => ∃ m : Nat, m ≤ m11 ∧ i = .int .i64 (m : Int) ∧ ERow wr kp ((LR.take m).filter L.okE) ∧ ERow wr wt (L.puts ((LR.take m).filter L.okE) W) ∧ (kp.ownBlock = none ∨ ∃ k, w3.heap.size ≤ k ∧ kp.ownBlock = some k) ∧ (∀ g, wt.ownBlock = some g → kp.ownBlock ≠ some g) ∧ Below w3.heap.size w3 wr) (fun _ _ i _ => m11 - (intOf i).toNat)
      case atStart => exact ⟨0, Nat.zero_le _, rfl, rk, r9b, hokc, hap, hbk⟩
      case round =>
        clear rk r9b hokc hap hbk r9a
        obtain ⟨m, hmm, rfl, rk, r9, hok, hap, hBi⟩ := hrel
        have q0 : (0 : Int) ≤ (m : Int) := by omega
        by_cases hmk : m < m11
        · have d1 : decide ((m : Int) < (m11 : Int)) = true := decide_eq_true (by omega)
          have d1' : decide (m < m11) = true := decide_eq_true hmk
          have q1 : (m : Int) < (m11 : Int) := by omega
          have hw2 : IntKind.i64.wrap ((m : Int) + 1) = ((m + 1 : Nat) : Int) := by rw [IntWalk.i64_in _ (by have := hm11.out; have := hLl.out; omega)]; omega
          have hm1 := Lib.hid (show m + 1 ≤ m11 by omega)
          obtain ⟨⟨kx, vx, ex⟩, hx⟩ : ∃ f, LR[m]? = some f := ⟨_, List.getElem?_eq_getElem (by have := hm11.out; omega)⟩
          obtain ⟨g, o, rfl, hg, cR⟩ := eread_at (ERow.at_ r11 hBi).reads hx
          have htk := L.filter_snoc L.okE hx
          have hacc : ((LR.take m).filter L.okE).length ≤ 20 := by
            have := List.length_filter_le L.okE (LR.take m)
            rw [List.length_take] at this
            have := hLl.out
            omega
          generalize (LR.take m).filter L.okE = acc at *
          have cR' : wr.rangeAt g (o + m * 3) [.string ⟨kx.toArray⟩, .string ⟨vx.toArray⟩, .bool ex] := cR
          have hsz : (Try.prog.info? 26).map (·.size) = some [Value.string ⟨kx.toArray⟩, .string ⟨vx.toArray⟩, .bool ex].length := size_en
          have rka := ERow.alloc rk (.cells #[.string ⟨kx.toArray⟩, .string ⟨vx.toArray⟩, .bool ex] 26)
          have r9a := ERow.alloc r9 (.cells #[.string ⟨kx.toArray⟩, .string ⟨vx.toArray⟩, .bool ex] 26)
          have X1 := Blk.new wr #[.string ⟨kx.toArray⟩, .string ⟨vx.toArray⟩, .bool ex] 26
          have hBa := hBi.alloc hBi.size (.cells #[.string ⟨kx.toArray⟩, .string ⟨vx.toArray⟩, .bool ex] 26)
          have hgx : ∀ g, (u12 : Value).ownBlock = some g → g < wr.heap.size := fun g hg => RowN.lt rk hg
          clear cR hg
          go_upto_region 16 with (refine wpList_load_mid rfl 26 (.tmp 75) rfl g (o + m * 3) rfl _ _ cR' Try.underlying26 rfl hsz ?_; go_frame)
          refine wp_world fun W5 hW5 => ?_
          have hsz5 : wr.heap.size ≤ W5.heap.size := by rw [hW5, World.size_alloc]; exact Nat.le_succ _
          rw [← hW5] at rka r9a X1 hBa
          clear hW5 cR' hsz d1 d1' q1 hBi rk r9
          generalize wr.heap.size = gx at *
          obtain ⟨x0, x1, x2, -, -, -⟩ := free3 X1
          have hz := str_size kx
          by_cases hk0 : 1 ≤ kx.length
          · have e1 : decide ((1 : Int) ≤ (kx.length : Int)) = true := decide_eq_true (by omega)
            have e1' : decide (1 ≤ kx.length) = true := decide_eq_true hk0
            by_cases hk100 : kx.length ≤ 100
            · have e2 : decide ((kx.length : Int) ≤ 100) = true := decide_eq_true (by omega)
              have e2' : decide (kx.length ≤ 100) = true := decide_eq_true hk100
              rw [if_pos (by unfold L.okE; rw [decide_eq_true (show 0 < kx.length by omega), decide_eq_true hk100]; rfl)] at htk
              replace htk := Lib.hid htk
              go_upto_region 17 with (fail)
              clear e1 e1' e2 e2' hz hk0 hk100
              have rkb := ERow.alloc rka (.cells #[.string ⟨kx.toArray⟩, .string ⟨vx.toArray⟩, .bool ex] 26)
              have r9b := ERow.alloc r9a (.cells #[.string ⟨kx.toArray⟩, .string ⟨vx.toArray⟩, .bool ex] 26)
              have X1b := X1.alloc (.cells #[.string ⟨kx.toArray⟩, .string ⟨vx.toArray⟩, .bool ex] 26)
              have hBb := hBa.alloc hBa.size (.cells #[.string ⟨kx.toArray⟩, .string ⟨vx.toArray⟩, .bool ex] 26)
              have qx := new_cellsN W5 (enC ⟨kx, vx, ex⟩) _ rfl 26
              have ox := one_enC ⟨kx, vx, ex⟩
              have hlm : ((acc.map enC).length + 1) * 40 ≤ 140737488355328 := by rw [List.length_map]; omega
              have hnx : some gx ≠ u12.ownBlock := fun e9 => by
                have := hgx gx e9.symm
                omega
              have PT := Lib.hid (fun W' (h' : ERow W' u9 (L.puts acc W)) => put_any (L.puts acc W) u9 kx vx ex W' h'.reads (by have := L.puts_len acc W; omega))
              clear rka r9a X1 hBa hgx
              go_wp2_with (first | (at_builtin; refine wpList_append_rowN rfl info_en (.tmp 87) (.tmp 89) 23 rfl und_en rfl rkb ⟨W5.heap.size, 0, none⟩ 1 1 [enC ⟨kx, vx, ex⟩] rfl rfl (len_enC _) qx ox hlm ?_; intro v12 w6 rkc hg6 hr6; have rkc := erow_snoc rkc; have r9c := RowN.grown r9b hg6 hap; have X1c := X1b.grown hg6 hnx; have hBc := below_grown_own hBb hBb.size hg6 hok; have hok2 := own_later hok hBb.size hr6; obtain ⟨x0, x1, x2, -, -, -⟩ := free3 X1c) | (go_at_call 6; refine (PT.out _ r9c).mono ?_; rintro e w7 ⟨v9, rfl, r9d, ho9, hb7⟩))
              go_roundw
              case rel => exact ⟨m + 1, hm1.out, rfl, by rw [htk.out]; exact rkc.at_ hb7, by rw [htk.out, L.puts_snoc, ← L.putGo_put _ _ (L.puts_up acc hUW.out)]; exact r9d, hok2, fun g h1 h2 => by
                have h3 := RowN.lt rkc h2
                rcases ho9 with h4 | ⟨k9, h4, h5⟩
                · rw [h4] at h1; cases h1
                · rw [h5] at h1; injection h1 with h1; omega, hBc.trans (hb7.mono hBc.size)⟩
              case measure => simp [intOf]; have := hm1.out; omega
            · have e2 : decide ((kx.length : Int) ≤ 100) = false := decide_eq_false (by omega)
              have e2' : decide (kx.length ≤ 100) = false := decide_eq_false hk100
              rw [if_neg (by unfold L.okE; rw [decide_eq_false hk100]; simp), List.append_nil] at htk
              replace htk := Lib.hid htk
              go_wp2
              go_roundw
              case rel => exact ⟨m + 1, hm1.out, rfl, by rw [htk.out]; exact rka, by rw [htk.out]; exact r9a, hok, hap, hBa⟩
              case measure => simp [intOf]; have := hm1.out; omega
          · have e1 : decide ((1 : Int) ≤ (kx.length : Int)) = false := decide_eq_false (by omega)
            have e1' : decide (1 ≤ kx.length) = false := decide_eq_false hk0
            rw [if_neg (by unfold L.okE; rw [decide_eq_false (show ¬ 0 < kx.length by omega)]; simp), List.append_nil] at htk
            replace htk := Lib.hid htk
            go_wp2
            go_roundw
            case rel => exact ⟨m + 1, hm1.out, rfl, by rw [htk.out]; exact rka, by rw [htk.out]; exact r9a, hok, hap, hBa⟩
            case measure => simp [intOf]; have := hm1.out; omega
        · have d1 : decide ((m : Int) < (m11 : Int)) = false := decide_eq_false (by omega)
          have d1' : decide (m < m11) = false := decide_eq_false hmk
          rw [List.take_of_length_le (by have := hm11.out; omega)] at rk r9
          have hUK : L.Up (LR.filter L.okE) := List.Pairwise.filter _ hLu.out
          have hKK : ∀ x ∈ LR.filter L.okE, L.KeyOk x.key := fun x hx => L.okE_key (List.mem_filter.1 hx).2
          have hKl : (LR.filter L.okE).length ≤ 20 := Nat.le_trans (List.length_filter_le _ _) hLl.out
          generalize LR.filter L.okE = K at *
          obtain ⟨A12, m12, c12, rfl, hm12, rk⟩ := erow_open rk
          have B7b := B7a.at_ hBi
          have hfsb := FRow.at_ hfsa hBi
          have r8b := r8a.at_ hBi
          have hTb := hTa.at_ hBi
          have hBb := hB3.trans (hBi.mono hB3.size)
          clear B7a hfsa r8a hTa hB3 hBi hok hap r11 hmm hmk q0 hLu hLl
          by_cases hK0 : K = []
          · subst hK0
            replace hm12 : m12 = 0 := hm12
            subst hm12
            go_wp2
            go_roundw
            case rel => exact ⟨k + 1, s, T, W, _, vs, by have := hN0.out; omega, by omega, rfl, Lib.hid ⟨hI.out.1.more (by omega) (by omega), by have := hI.out.2; omega⟩, B7b, hfsb, r8b, hTb, r9, hBb⟩
            case measure => simp [intOf]; omega
          · have hmp0 : 0 < m12 := by rw [hm12]; exact List.length_pos_iff.2 hK0
            replace hm12 := Lib.hid hm12
            have d2 : ((m12 : Int) == 0) = false := by rw [beq_eq_false_iff_ne]; omega
            have d2' : (m12 == 0) = false := by rw [beq_eq_false_iff_ne]; omega
            go_upto_region 21 with (fail)
            clear d1 d1' d2 d2'
            obtain ⟨mp, hmp⟩ : ∃ n, m12 = n + 1 := ⟨m12 - 1, by omega⟩
            obtain ⟨⟨kx, vx, ex⟩, hx0⟩ : ∃ x, K[0]? = some x := ⟨_, List.getElem?_eq_getElem (by have := hm12.out; omega)⟩
            obtain ⟨⟨ky, vy, ey⟩, hy0⟩ : ∃ x, K[mp]? = some x := ⟨_, List.getElem?_eq_getElem (by have := hm12.out; omega)⟩
            obtain ⟨gm, om, rfl, hgm, cX⟩ := eread_at rk.reads hx0
            obtain ⟨gm2, om2, e2, -, cY⟩ := eread_at rk.reads hy0
            injection e2 with e2
            injection e2 with e2 e3 _
            subst e2 e3
            rw [Nat.zero_mul, Nat.add_zero] at cX
            obtain ⟨s8, hs8⟩ : ∃ n, n = 8 * m12 := ⟨_, rfl⟩
            have hMl2 : m12 ≤ 20 := by rw [hm12.out]; exact hKl
            have hw8 : IntKind.i64.wrap (8 * (m12 : Int)) = (s8 : Int) := by rw [IntWalk.i64_in _ (by omega)]; omega
            have hwl : IntKind.i64.wrap ((m12 : Int) - 1) = (mp : Int) := by rw [IntWalk.i64_in _ (by omega)]; omega
            have q1 : (0 : Int) < (m12 : Int) := by omega
            have q2 : (mp : Int) < (m12 : Int) := by omega
            have q3 : (0 : Int) ≤ (mp : Int) := by omega
            have hF : (⟨s.next, 0, s8, kx, ky⟩ : L.Fi) = L.tab s.next 0 K := by
              unfold L.tab
              rw [hs8, hm12.out]
              have e5 : K.head? = some ⟨kx, vx, ex⟩ := by rw [List.head?_eq_getElem?]; exact hx0
              have e6 : K.getLast? = some ⟨ky, vy, ey⟩ := by
                rw [List.getLast?_eq_getElem?, show K.length - 1 = mp by have := hm12.out; omega]
                exact hy0
              rw [e5, e6]
              rfl
            replace hF := Lib.hid hF
            replace hmp := Lib.hid hmp
            replace hs8 := Lib.hid hs8
            have hK0 := Lib.hid hK0
            clear hx0 hy0
            apply wp_region_rel_below_tail 18 [[(7, none)], [(98, some 0)], [(12, none)], [(100, some 2)], [(101, some 3)], [(12, none)], [(103, some 5)], [(104, some 6)], [(105, some 7)], [(12, none)], [(12, none)], [(108, some 10)], [(109, some 11)], [(107, some 9), (110, some 12)], [(111, some 13)], [(112, some 14)], [(99, some 1), (102, some 4), (106, some 8), (113, some 15)], []] [eqv _, eqv _, eqv _, eqv _, eqv _, eqv _, eqv _, eqv _, eqv _, eqv _, eqv _, eqv _, eqv _, eqv _, eqv _, eqv _, eqv _, ptrNew wr.heap.size #[.int .i64 0, .int .i64 0, .int .i64 0, .string ⟨#[]⟩, .string ⟨#[]⟩] 33] (by kernel_rfl) (by kernel_rfl)
            case hobs =>
              refine ⟨?_, ?_⟩
              · rintro L a1 w1 hT - - ⟨h7, -⟩   -- 0: Op.fieldAddr 29 t7 0
                have e7 : a1.tmps.getD 7 undef = _ := h7
                have f7 := getD_form e7
                clear h7
                go_simp; exact left_intro rfl (Stp.refl _) trivial
              refine ⟨?_, ?_⟩
              · rintro L a1 w1 hT - - ⟨h98, -⟩   -- 1: Op.load 3 t98
                have e98 : a1.tmps.getD 98 undef = _ := h98
                have f98 := getD_form e98
                clear h98
                have c := (B7b.drew.at_ hT).cellv (i := 0) (v := .int .i64 (s.next : Int)) rfl
                go_simp; exact left_intro rfl (Stp.refl _) trivial
              refine ⟨?_, ?_⟩
              · rintro L a1 w1 hT - - ⟨h12, -⟩   -- 2: Op.move t12
                have e12 : a1.tmps.getD 12 undef = _ := h12
                have f12 := getD_form e12
                clear h12
                go_simp; exact left_intro rfl (Stp.refl _) trivial
              refine ⟨?_, ?_⟩
              · rintro L a1 w1 hT - - ⟨h100, -⟩   -- 3: Op.call { builtin len, args := #[t100], argTypes := #[23] }
                have e100 : a1.tmps.getD 100 undef = _ := h100
                have f100 := getD_form e100
                clear h100
                go_simp; exact left_intro rfl (Stp.refl _) trivial
              refine ⟨?_, ?_⟩
              · rintro L a1 w1 hT - - ⟨h101, -⟩   -- 4: Op.binOp BinOp.mul 3 (const (8:i64)) t101 3
                have e101 : a1.tmps.getD 101 undef = _ := h101
                have f101 := getD_form e101
                clear h101
                go_simp; exact left_intro rfl (Stp.refl _) trivial
              refine ⟨?_, ?_⟩
              · rintro L a1 w1 hT - - ⟨h12, -⟩   -- 5: Op.move t12
                have e12 : a1.tmps.getD 12 undef = _ := h12
                have f12 := getD_form e12
                clear h12
                go_simp; exact left_intro rfl (Stp.refl _) trivial
              refine ⟨?_, ?_⟩
              · rintro L a1 w1 hT - - ⟨h103, -⟩   -- 6: Op.indexAddr 23 t103 (const (0:i64))
                have e103 : a1.tmps.getD 103 undef = _ := h103
                have f103 := getD_form e103
                clear h103
                go_simp; exact left_intro rfl (Stp.refl _) trivial
              refine ⟨?_, ?_⟩
              · rintro L a1 w1 hT - - ⟨h104, -⟩   -- 7: Op.fieldAddr 26 t104 0
                have e104 : a1.tmps.getD 104 undef = _ := h104
                have f104 := getD_form e104
                clear h104
                go_simp; exact left_intro rfl (Stp.refl _) trivial
              refine ⟨?_, ?_⟩
              · rintro L a1 w1 hT - - ⟨h105, -⟩   -- 8: Op.load 9 t105
                have e105 : a1.tmps.getD 105 undef = _ := h105
                have f105 := getD_form e105
                clear h105
                have c : w1.cell? ⟨gm, om, none⟩ = some (.string ⟨kx.toArray⟩) := range_below hT hgm cX 0 _ rfl
                go_simp; exact left_intro rfl (Stp.refl _) trivial
              refine ⟨?_, ?_⟩
              · rintro L a1 w1 hT - - ⟨h12, -⟩   -- 9: Op.move t12
                have e12 : a1.tmps.getD 12 undef = _ := h12
                have f12 := getD_form e12
                clear h12
                go_simp; exact left_intro rfl (Stp.refl _) trivial
              refine ⟨?_, ?_⟩
              · rintro L a1 w1 hT - - ⟨h12, -⟩   -- 10: Op.move t12
                have e12 : a1.tmps.getD 12 undef = _ := h12
                have f12 := getD_form e12
                clear h12
                go_simp; exact left_intro rfl (Stp.refl _) trivial
              refine ⟨?_, ?_⟩
              · rintro L a1 w1 hT - - ⟨h108, -⟩   -- 11: Op.call { builtin len, args := #[t108], argTypes := #[23] }
                have e108 : a1.tmps.getD 108 undef = _ := h108
                have f108 := getD_form e108
                clear h108
                go_simp; exact left_intro rfl (Stp.refl _) trivial
              refine ⟨?_, ?_⟩
              · rintro L a1 w1 hT - - ⟨h109, -⟩   -- 12: Op.binOp BinOp.sub 3 t109 (const (1:i64)) 3
                have e109 : a1.tmps.getD 109 undef = _ := h109
                have f109 := getD_form e109
                clear h109
                go_simp; exact left_intro rfl (Stp.refl _) trivial
              refine ⟨?_, ?_⟩
              · rintro L a1 w1 hT - - ⟨h107, h110, -⟩   -- 13: Op.indexAddr 23 t107 t110
                have e107 : a1.tmps.getD 107 undef = _ := h107
                have f107 := getD_form e107
                have e110 : a1.tmps.getD 110 undef = _ := h110
                have f110 := getD_form e110
                clear h107 h110
                go_simp; exact left_intro rfl (Stp.refl _) trivial
              refine ⟨?_, ?_⟩
              · rintro L a1 w1 hT - - ⟨h111, -⟩   -- 14: Op.fieldAddr 26 t111 0
                have e111 : a1.tmps.getD 111 undef = _ := h111
                have f111 := getD_form e111
                clear h111
                go_simp; exact left_intro rfl (Stp.refl _) trivial
              refine ⟨?_, ?_⟩
              · rintro L a1 w1 hT - - ⟨h112, -⟩   -- 15: Op.load 9 t112
                have e112 : a1.tmps.getD 112 undef = _ := h112
                have f112 := getD_form e112
                clear h112
                have c : w1.cell? ⟨gm, om + mp * 3, none⟩ = some (.string ⟨ky.toArray⟩) := range_below hT hgm cY 0 _ rfl
                go_simp; exact left_intro rfl (Stp.refl _) trivial
              refine ⟨?_, ?_⟩
              · rintro L a1 w1 hT - - ⟨h99, h102, h106, h113, -⟩   -- 16: Op.build 33 #[(0, t99), (2, t102), (3, t106), (4, t113)]
                have e99 : a1.tmps.getD 99 undef = _ := h99
                have f99 := getD_form e99
                have e102 : a1.tmps.getD 102 undef = _ := h102
                have f102 := getD_form e102
                have e106 : a1.tmps.getD 106 undef = _ := h106
                have f106 := getD_form e106
                have e113 : a1.tmps.getD 113 undef = _ := h113
                have f113 := getD_form e113
                clear h99 h102 h106 h113
                go_simp; exact left_intro rfl (Stp.refl _) trivial
              refine ⟨?_, ?_⟩
              · rintro L a1 w1 hT - - -   -- 17: Op.alloc 33
                go_simp; exact left_intro (T := Stp) (Ph := fun _ _ _ => True) ⟨_, rfl, Blk.new _ _ _, hT.size⟩ (Stp.alloc _ _) trivial
              trivial
            case hmono => repeat (first | exact trivial | refine ⟨fun _ _ _ _ h => h, ?_⟩ | refine ⟨mono_blkRow _ _ _ _, ?_⟩ | refine ⟨mono_ptrNew _ _ _, ?_⟩)
            case hend =>
              intro w2 hT
              rintro _ rfl _ rfl _ rfl _ rfl _ rfl _ rfl _ rfl _ rfl _ rfl _ rfl _ rfl _ rfl _ rfl _ rfl _ rfl _ rfl _ rfl v15 hb15
              change wpList _ _ _ _ _ _
              simp only [Act.put, List.setIfInBounds_toArray, List.set_cons_succ, List.set_cons_zero, List.drop_succ_cons, List.drop_zero]
              obtain ⟨b15, rfl, Z15, hb15⟩ := hb15
              obtain ⟨⟨z0, z1, z2, z3, z4⟩, y0, y1, y2, y3, y4⟩ := free5 Z15
              obtain ⟨F15, o15⟩ := put5 Z15 (.int .i64 (s.next : Int)) (.int .i64 0) (.int .i64 (s8 : Int)) (.string ⟨kx.toArray⟩) (.string ⟨ky.toArray⟩) _ rfl
              have hBz : Below wr.heap.size wr _ := o15.below hT hb15
              have B7c := B7b.at_ hBz
              have hfsc := FRow.at_ hfsb hBz
              have r8c := r8b.at_ hBz
              have hTc := hTb.at_ hBz
              have rkc := ERow.at_ rk hBz
              have r9c := ERow.at_ r9 hBz
              have hBc := hBb.trans (hBz.mono hBb.size)
              clear B7b hfsb r8b hTb rk r9 hBb hBz o15 hT Z15 cX cY hgm q1 q2 q3 hw8 hwl
              go_upto_region 22 with (fail)
              clear z0 z1 z2 z3 z4 y0 y1 y2 y3 y4
              refine wp_world fun W6 hW6 => ?_
              rw [← hW6] at F15 B7c hfsc r8c hTc rkc r9c hBc
              clear hW6
              obtain ⟨⟨x0, x1, x2, x3, x4⟩, -⟩ := free5 F15
              go_upto_region 24 with (fail)
              clear x0 x1 x2 x3 x4
              have hvl : vs.length ≤ 100 := by
                have h1 := hI.out.1.next
                have h2 := hI.out.1.nextB
                have h3 := hTc.1
                omega
              have r98 : Row1 (W6.alloc (.cells #[] 23)) 23 (.slice (some ⟨W6.heap.size, 0, none⟩) 0 0) [] := Row1.build W6 _ [] #[] 0 rfl rfl (by omega)
              have hb98 := (Below.refl W6.heap.size W6).alloc (Nat.le_refl _) (.cells #[] 23)
              have hvW := r8c.alloc (.cells #[] 23)
              have hv1 := hTc.reads.one
              have hl1 : (([] : List Value).length + vs.length) * 24 ≤ 140737488355328 := by show (0 + vs.length) * 24 ≤ _; omega
              have hl2 : ((([] : List Value) ++ vs).length + 1) * 24 ≤ 140737488355328 := by show (vs.length + 1) * 24 ≤ _; omega
              have ox : ∀ u ∈ [Value.slice (some ⟨gm, om, none⟩) m12 c12], u.oneCell' = true := by
                intro u hu
                rw [List.mem_singleton.1 hu]
                rfl
              go_upto_region 25 with (at_builtin; first | (refine wpList_append_rows rfl info_sl (.tmp 120) (.tmp 121) 22 rfl und_ee rfl r98 rfl hvW hv1 hl1 ?_; intro v4 w4 r4 hg4 hr4; have hb4 := below_grown_own hb98 hb98.size hg4 (.inr ⟨_, Nat.le_refl _, rfl⟩); have o4 := own_later (.inr ⟨_, Nat.le_refl _, rfl⟩) hb98.size hr4; have r4a := r4.alloc (.cells #[.slice (some ⟨gm, om, none⟩) m12 c12] 23); have hb4a := hb4.alloc hb4.size (.cells #[.slice (some ⟨gm, om, none⟩) m12 c12] 23); have qx := new_cells w4 [.slice (some ⟨gm, om, none⟩) m12 c12] _ rfl 23) | (refine wpList_append_row rfl info_sl (.tmp 122) (.tmp 124) 22 rfl und_ee rfl r4a ⟨w4.heap.size, 0, none⟩ 1 1 [.slice (some ⟨gm, om, none⟩) m12 c12] rfl rfl qx ox hl2 ?_; intro v5 w5 r5 hg5 hr5; have hb5 := below_grown_own hb4a hb4a.size hg5 o4))
              obtain ⟨At2, mt2, ct2, rfl, hmt2, r5⟩ := row1_open r5
              replace hmt2 := Lib.hid hmt2
              have B7d := B7c.at_ hb5
              have F15d := F15.at_ hb5
              have hfsd := FRow.at_ hfsc hb5
              have hTd := (hTc.at_ hb5).snoc (rkc.at_ hb5)
              have r9d := ERow.at_ r9c hb5
              have hBd := hBc.trans (hb5.mono hBc.size)
              clear hb4 hb4a r4 r4a hg4 hr4 o4 qx hg5 hr5 hb5 hb98 r98 hvW hl1 hl2 ox B7c F15 hfsc r8c hTc rkc r9c hBc hv1 hvl
              have hI2 := L.add_applied hI.out.1 hK0.out hUK hKK hKl
              rw [← hF.out] at hI2
              have hWl2 : (L.puts K W).length ≤ 20 * (k + 1) := by
                have h1 := L.puts_len K W
                have h2 := hI.out.2
                omega
              have hf9 : FRow (w5.alloc (.cells #[.int .i64 (s.next : Int), .int .i64 0, .int .i64 (s8 : Int), .string ⟨kx.toArray⟩, .string ⟨ky.toArray⟩] 33)) (.slice (some ⟨w5.heap.size, 0, none⟩) 1 1) [(⟨s.next, 0, s8, kx, ky⟩ : L.Fi)] := RowN.build w5 _ 5 [fiC (⟨s.next, 0, s8, kx, ky⟩ : L.Fi)] _ 1 rfl (len_fiC _) rfl (by omega)
              have B7e := B7d.alloc (.cells #[.int .i64 (s.next : Int), .int .i64 0, .int .i64 (s8 : Int), .string ⟨kx.toArray⟩, .string ⟨ky.toArray⟩] 33)
              have hTe := hTd.alloc (.cells #[.int .i64 (s.next : Int), .int .i64 0, .int .i64 (s8 : Int), .string ⟨kx.toArray⟩, .string ⟨ky.toArray⟩] 33)
              have r9e := ERow.alloc r9d (.cells #[.int .i64 (s.next : Int), .int .i64 0, .int .i64 (s8 : Int), .string ⟨kx.toArray⟩, .string ⟨ky.toArray⟩] 33)
              have r5e := r5.alloc (.cells #[.int .i64 (s.next : Int), .int .i64 0, .int .i64 (s8 : Int), .string ⟨kx.toArray⟩, .string ⟨ky.toArray⟩] 33)
              have hBe := hBd.alloc hBd.size (.cells #[.int .i64 (s.next : Int), .int .i64 0, .int .i64 (s8 : Int), .string ⟨kx.toArray⟩, .string ⟨ky.toArray⟩] 33)
              have AP := apply_any s (.slice Sv ms cv) (.slice none 0 0) (.slice (some ⟨w5.heap.size, 0, none⟩) 1 1) [] [(⟨s.next, 0, s8, kx, ky⟩ : L.Fi)] 0 (w5.alloc (.cells #[.int .i64 (s.next : Int), .int .i64 0, .int .i64 (s8 : Int), .string ⟨kx.toArray⟩, .string ⟨ky.toArray⟩] 33)) (FRow.alloc hfsd (.cells #[.int .i64 (s.next : Int), .int .i64 0, .int .i64 (s8 : Int), .string ⟨kx.toArray⟩, .string ⟨ky.toArray⟩] 33)).reads (Row1.nil _ 3).reads hf9.reads (hI.out.1.good (by omega) (by omega)) (by simp) (by simp) (by
                intro f hf
                rw [List.mem_singleton.1 hf]
                have := hI.out.1.nextB
                show s.next < _
                omega) (by have := hI.out.1.few; simp; omega) (hI2.good (by omega) (by omega))
              obtain ⟨sx, hs1⟩ : ∃ s1, s1 = L.applied s [] [(⟨s.next, 0, s8, kx, ky⟩ : L.Fi)] 0 := ⟨_, rfl⟩
              rw [← hs1] at hI2 AP
              unfold stV at AP
              replace hI2 := Lib.hid hI2
              replace AP := Lib.hid AP
              obtain ⟨y0, y1, y2, -, -, -⟩ := free3 B7d
              obtain ⟨⟨x0, x1, x2, x3, x4⟩, -⟩ := free5 F15d
              clear hs1 hf9 hI hF hK0 hUK hKK hKl hfsd hTd r9d r5 hBd B7d F15d
              go_upto_region 26 with (go_at_call 7; refine AP.out.mono ?_; rintro e w7 ⟨v7, rfl, hr7, hb7⟩; obtain ⟨A7, m7, c7, rfl, hm7, hr7⟩ := frow_open hr7; replace hm7 := Lib.hid hm7; have X16 := Blk.new w7 #[.int .i64 (sx.next : Int), .int .i64 (sx.log : Int), .slice A7 m7 c7] 29; have B7f := (B7e.at_ hb7).alloc (.cells #[.int .i64 (sx.next : Int), .int .i64 (sx.log : Int), .slice A7 m7 c7] 29); have hTf := (hTe.at_ hb7).alloc (.cells #[.int .i64 (sx.next : Int), .int .i64 (sx.log : Int), .slice A7 m7 c7] 29); have r9f := ERow.alloc (ERow.at_ r9e hb7) (.cells #[.int .i64 (sx.next : Int), .int .i64 (sx.log : Int), .slice A7 m7 c7] 29); have r5f := (r5e.at_ hb7).alloc (.cells #[.int .i64 (sx.next : Int), .int .i64 (sx.log : Int), .slice A7 m7 c7] 29); have hr7a := FRow.alloc hr7 (.cells #[.int .i64 (sx.next : Int), .int .i64 (sx.log : Int), .slice A7 m7 c7] 29); have hBx := hBe.trans (hb7.mono hBe.size); have hBf := hBx.alloc hBx.size (.cells #[.int .i64 (sx.next : Int), .int .i64 (sx.log : Int), .slice A7 m7 c7] 29); have hb7l := B7f.lt)
              refine wp_world fun W7 hW7 => ?_
              rw [← hW7] at X16 B7f hTf r9f r5f hr7a hBf
              clear hW7 hTe r9e r5e hBe B7e hb7 hr7 hBx AP y0 y1 y2 x0 x1 x2 x3 x4 hb7l
              obtain ⟨x0, x1, x2, -, -, -⟩ := free3 X16
              obtain ⟨z0, z1, z2, s0, s1, s2⟩ := free3 B7f
              obtain ⟨B7g, o7⟩ := put3 B7f (.int .i64 (sx.next : Int)) (.int .i64 (sx.log : Int)) (.slice A7 m7 c7) _ rfl
              have hTg := hTf.only B7f (by decide) o7
              have r9g := RowN.only r9f B7f (by decide) o7
              have r5g := row1_only r5f B7f (by decide) o7
              have hr7g := frow_only hr7a B7f (by decide) o7
              have hBg := o7.below hBf hb7.out
              go_upto_region 29 with (fail)
              refine wp_world fun W8 hW8 => ?_
              rw [← hW8] at B7g hTg r9g r5g hr7g hBg
              clear hW8 hTf r9f r5f hr7a hBf B7f x0 x1 x2 z0 z1 z2 s0 s1 s2 o7 X16
              have r9g : ERow W8 u9 (L.puts K W) := r9g
              generalize L.puts K W = W2 at *
              clear hmp hs8 hm12 hm11 hmt2 hm7 hMl2 hmp0
              go_wp2
              go_loopw [8, 18] (fun tb i wr => ∃ (n : Nat) (s : L.St) (T : List (List L.En)) (sv : Value) (vs : List Value), n ≤ 6 ∧ i = .int .i64 (n : Int) ∧ Hid (L.Inv (k + 1) (7 * k + 1 + n) s T W2) ∧ Blk wr b7 #[.int .i64 (s.next : Int), .int .i64 (s.log : Int), sv] 29 ∧ FRow wr sv s.files ∧ Row1 wr 23 tb vs ∧ RowAll wr vs T ∧ ERow wr u9 W2 ∧ Below w.heap.size w wr) (fun _ i _ => 6 - (intOf i).toNat)
              case atStart => exact ⟨0, sx, T ++ [K], _, _, by omega, rfl, hI2, B7g, hr7g, r5g, hTg, r9g, hBg⟩
              case round =>
                clear hI2 B7g hr7g r5g hTg r9g hBg
                obtain ⟨n, s, T, sv, vs, hn6, rfl, hI, B7, hfs, r8, hT, r9, hB⟩ := hrel
                obtain ⟨Sv, ms, cv, rfl, hms, hfs⟩ := frow_open hfs
                replace hms := Lib.hid hms
                obtain ⟨A8, m8, c8, rfl, hm8, r8⟩ := row1_open r8
                replace hm8 := Lib.hid hm8
                have q0 : (0 : Int) ≤ (n : Int) := by omega
                by_cases hm : n < 6
                · have d1 : decide ((n : Int) < 6) = true := decide_eq_true (by omega)
                  have d1' : decide (n < 6) = true := decide_eq_true hm
                  have hw2 : IntKind.i64.wrap ((n : Int) + 1) = ((n + 1 : Nat) : Int) := by rw [IntWalk.i64_in _ (by omega)]; omega
                  have hn1 := Lib.hid (show n + 1 ≤ 6 by omega)
                  have PK := Lib.hid (pick_to s _ cn sn wr hfs.reads (hI.out.good (by omega) (by omega)) (by have := hI.out.few; omega) hcn.out.1 hcn.out.2.1 hcn.out.2.2.1 hcn.out.2.2.2)
                  obtain ⟨y0, y1, y2, -, -, -⟩ := free3 B7
                  go_upto_region 33 with (go_at_call 8; refine PK.out.mono ?_; rintro e w5 ⟨ok, jl, Aj, mj, cj, Ak, mk, ck, rfl, hP, hb5⟩; have X19 := Blk.new w5 #[.int .i64 (jl : Int), .slice Aj mj cj, .slice Ak mk ck] 39; have B7a := (B7.at_ hb5).alloc (.cells #[.int .i64 (jl : Int), .slice Aj mj cj, .slice Ak mk ck] 39); have hfsa := FRow.alloc (FRow.at_ hfs hb5) (.cells #[.int .i64 (jl : Int), .slice Aj mj cj, .slice Ak mk ck] 39); have r8a := (r8.at_ hb5).alloc (.cells #[.int .i64 (jl : Int), .slice Aj mj cj, .slice Ak mk ck] 39); have hTa := (hT.at_ hb5).alloc (.cells #[.int .i64 (jl : Int), .slice Aj mj cj, .slice Ak mk ck] 39); have r9a := ERow.alloc (ERow.at_ r9 hb5) (.cells #[.int .i64 (jl : Int), .slice Aj mj cj, .slice Ak mk ck] 39); have hBx := hB.trans (hb5.mono hB.size); have hBa := hBx.alloc hBx.size (.cells #[.int .i64 (jl : Int), .slice Aj mj cj, .slice Ak mk ck] 39); have hPa := Lib.hid (fun (hok : ok = true) => (hP.out hok).imp fun j hj => (⟨hj.1, hj.2.1, hj.2.2.1.alloc (.cells #[.int .i64 (jl : Int), .slice Aj mj cj, .slice Ak mk ck] 39), hj.2.2.2.alloc (.cells #[.int .i64 (jl : Int), .slice Aj mj cj, .slice Ak mk ck] 39)⟩ : L.JobOk s j ∧ j.lev = jl ∧ Row1 (w5.alloc (.cells #[.int .i64 (jl : Int), .slice Aj mj cj, .slice Ak mk ck] 39)) 3 (.slice Aj mj cj) (j.from_.map fun f => intV f.num) ∧ Row1 (w5.alloc (.cells #[.int .i64 (jl : Int), .slice Aj mj cj, .slice Ak mk ck] 39)) 3 (.slice Ak mk ck) (j.to_.map fun f => intV f.num))))
                  refine wp_world fun W5 hW5 => ?_
                  rw [← hW5] at X19 B7a hfsa r8a hTa r9a hBa hPa
                  clear hW5 B7 hfs r8 hT r9 hB hb5 hBx hP PK y0 y1 y2 d1 d1'
                  generalize w5.heap.size = g19 at *
                  cases ok with
                  | false =>
                    go_wp2
                    go_roundw
                    case rel => exact ⟨k + 1, s, T, W2, _, vs, by have := hN0.out; omega, by omega, rfl, Lib.hid ⟨hI.out.more (Nat.le_refl _) (by omega), hWl2⟩, B7a, hfsa, r8a, hTa, r9a, hBa⟩
                    case measure => simp [intOf]; omega
                  | true =>
                    obtain ⟨j, hj, rfl, hru, hrt⟩ := hPa.out rfl
                    have JT := jobt_any hI.out hj (by omega) (by omega) (.slice Sv ms cv) (.slice A8 m8 c8) (.slice Aj mj cj) (.slice Ak mk ck) vs W5 hfsa.reads r8a hTa hru hrt
                    unfold stV jbV at JT
                    replace JT := Lib.hid JT
                    obtain ⟨y0, y1, y2, -, -, -⟩ := free3 B7a
                    obtain ⟨x0, x1, x2, -, -, -⟩ := free3 X19
                    clear hPa hj hru hrt hI hms hm8
                    go_upto_region 35 with (go_at_call 9; refine JT.out.mono ?_; rintro e w6 ⟨s9, T9, sv9, tv9, vs9, rfl, hI9, hfs9, r89, hT9, hb6⟩; obtain ⟨A7, m7, c7, rfl, hm7, hfs9⟩ := frow_open hfs9; obtain ⟨A8', m8', c8', rfl, hm8', r89⟩ := row1_open r89; replace hm7 := Lib.hid hm7; replace hm8' := Lib.hid hm8'; replace hI9 := Lib.hid hI9; have X21 := Blk.new w6 #[.int .i64 (s9.next : Int), .int .i64 (s9.log : Int), .slice A7 m7 c7] 29; have B7b := (B7a.at_ hb6).alloc (.cells #[.int .i64 (s9.next : Int), .int .i64 (s9.log : Int), .slice A7 m7 c7] 29); have hfsb := FRow.alloc hfs9 (.cells #[.int .i64 (s9.next : Int), .int .i64 (s9.log : Int), .slice A7 m7 c7] 29); have r8b := r89.alloc (.cells #[.int .i64 (s9.next : Int), .int .i64 (s9.log : Int), .slice A7 m7 c7] 29); have hTb := hT9.alloc (.cells #[.int .i64 (s9.next : Int), .int .i64 (s9.log : Int), .slice A7 m7 c7] 29); have r9b := ERow.alloc (ERow.at_ r9a hb6) (.cells #[.int .i64 (s9.next : Int), .int .i64 (s9.log : Int), .slice A7 m7 c7] 29); have hBx := hBa.trans (hb6.mono hBa.size); have hBb := hBx.alloc hBx.size (.cells #[.int .i64 (s9.next : Int), .int .i64 (s9.log : Int), .slice A7 m7 c7] 29))
                    refine wp_world fun W6 hW6 => ?_
                    rw [← hW6] at X21 B7b hfsb r8b hTb r9b hBb
                    clear hW6 B7a hfsa r8a hTa r9a hBa hb6 hBx JT y0 y1 y2 x0 x1 x2 hfs9 r89 hT9 X19
                    obtain ⟨x0, x1, x2, -, -, -⟩ := free3 X21
                    obtain ⟨z0, z1, z2, s0, s1, s2⟩ := free3 B7b
                    obtain ⟨B7c, o7⟩ := put3 B7b (.int .i64 (s9.next : Int)) (.int .i64 (s9.log : Int)) (.slice A7 m7 c7) _ rfl
                    have hTc := hTb.only B7b (by decide) o7
                    have r9c := RowN.only r9b B7b (by decide) o7
                    have r8c := row1_only r8b B7b (by decide) o7
                    have hfsc := frow_only hfsb B7b (by decide) o7
                    have hBc := o7.below hBb hb7.out
                    clear hTb r9b r8b hfsb hBb X21 B7b o7
                    go_wp2
                    go_roundw
                    case rel => exact ⟨n + 1, s9, T9, _, vs9, hn1.out, rfl, hI9, B7c, hfsc, r8c, hTc, r9c, hBc⟩
                    case measure => simp [intOf]; have := hn1.out; omega
                · have d1 : decide ((n : Int) < 6) = false := decide_eq_false (by omega)
                  have d1' : decide (n < 6) = false := decide_eq_false hm
                  go_wp2
                  go_roundw
                  case rel => exact ⟨k + 1, s, T, W2, _, vs, by have := hN0.out; omega, by omega, rfl, Lib.hid ⟨hI.out.more (Nat.le_refl _) (by omega), hWl2⟩, B7, hfs, r8, hT, r9, hB⟩
                  case measure => simp [intOf]; omega
    · go_upto_region 9 with (fail)
      go_cut [62] from 55 to 62 (fun v wx => v = .bool false ∧ wx = wr)
      case first =>
        by_cases h9 : k < N0
        · have d1 : decide ((k : Int) < (N0 : Int)) = true := decide_eq_true (by omega)
          have d1' : decide (k < N0) = true := decide_eq_true h9
          have d2 : decide ((k : Int) < 8) = false := decide_eq_false (by omega)
          have d2' : decide (k < 8) = false := decide_eq_false (by omega)
          go_wp2_with fail
          go_meet
          exact ⟨rfl, rfl⟩
        · have d1 : decide ((k : Int) < (N0 : Int)) = false := decide_eq_false (by omega)
          have d1' : decide (k < N0) = false := decide_eq_false h9
          go_wp2_with fail
          go_meet
          exact ⟨rfl, rfl⟩
      case rest =>
        obtain ⟨rfl, hwc⟩ := hcut
        rw [hwc]
        clear hwc hmk h hr hN0 hcn
        generalize wr = wb at *
        obtain ⟨y0, y1, y2, -, -, -⟩ := free3 (B7.alloc (.cells #[] 23))
        have rn : Row1 (wb.alloc (.cells #[] 23)) 23 (.slice (some ⟨wb.heap.size, 0, none⟩) 0 0) [] := Row1.build wb _ [] #[] 0 rfl rfl (by omega)
        have hbn := below_alloc1 wb (.cells #[] 23)
        have hon : (Value.slice (some ⟨wb.heap.size, 0, none⟩) 0 0).ownBlock = none ∨ ∃ k, wb.heap.size ≤ k ∧ (Value.slice (some ⟨wb.heap.size, 0, none⟩) 0 0).ownBlock = some k := .inr ⟨_, Nat.le_refl _, rfl⟩
        have hfew : s.files.length ≤ 8 := Nat.le_trans hI.out.1.few hk8
        go_wp2
        clear y0 y1 y2
        go_loopw [24, 166] (fun nv i wr => ∃ (m : Nat) (vl : List Value), m ≤ ms ∧ i = .int .i64 (m : Int) ∧ Row1 wr 23 nv vl ∧ Hid (ReadAll wb vl ((s.files.take m).map (L.tbl T))) ∧ (nv.ownBlock = none ∨ ∃ k, wb.heap.size ≤ k ∧ nv.ownBlock = some k) ∧ Below wb.heap.size wb wr) (fun _ i _ => ms - (intOf i).toNat)
        case atStart => exact ⟨0, [], Nat.zero_le _, rfl, rn, Lib.hid (ReadAll.nil _), hon, hbn⟩
        case round =>
          clear rn hon hbn
          obtain ⟨m, vl, hmm, rfl, rn, hRA, hon, hbn⟩ := hrel
          have q0 : (0 : Int) ≤ (m : Int) := by omega
          by_cases hmk : m < ms
          · have d1 : decide ((m : Int) < (ms : Int)) = true := decide_eq_true (by omega)
            have d1' : decide (m < ms) = true := decide_eq_true hmk
            have q1 : (m : Int) < (ms : Int) := by omega
            have hw2 : IntKind.i64.wrap ((m : Int) + 1) = ((m + 1 : Nat) : Int) := by rw [IntWalk.i64_in _ (by have := hms.out; omega)]; omega
            have hm1 := Lib.hid (show m + 1 ≤ ms by omega)
            obtain ⟨f, hf0⟩ : ∃ f, s.files[m]? = some f := ⟨_, List.getElem?_eq_getElem (by have := hms.out; omega)⟩
            obtain ⟨g, o, rfl, hg, cR⟩ := fread_at (FRow.at_ hfs hbn).reads hf0
            have hfn := hI.out.1.nlt f (List.mem_of_getElem? hf0)
            have hTn : f.num < s.next := (hI.out.1.files f (List.mem_of_getElem? hf0)).1
            have hyT : T[f.num]? = some (L.tbl T f) := by
              unfold L.tbl
              rw [List.getD_eq_getElem?_getD, List.getElem?_eq_getElem hfn]
              rfl
            obtain ⟨x, hx⟩ : ∃ x, vs[f.num]? = some x := ⟨_, List.getElem?_eq_getElem (by rw [hT.1]; exact hfn)⟩
            have hEx := (hT.2 _ _ _ hx hyT).reads
            obtain ⟨Ay, ly, cy, rfl⟩ : ∃ A n c, x = .slice A n c := by
              obtain ⟨A, c, e, _⟩ := eread_open hEx
              exact ⟨_, _, _, e⟩
            obtain ⟨g1, rfl, hg1, cX⟩ := row1_get (r8.at_ hbn) hx
            have htk := Lib.hid (show ReadAll wb (vl ++ [.slice Ay ly cy]) ((s.files.take (m + 1)).map (L.tbl T)) by
              rw [L.take_snoc hf0, List.map_append]
              have h9 := hRA.out.snoc hEx
              exact h9)
            have hvl : vl.length ≤ 8 := by
              have h1 := hRA.out.1
              rw [List.length_map, List.length_take] at h1
              omega
            have cR' : wr.rangeAt g (o + m * 5) [.int .i64 (f.num : Int), .int .i64 (f.lev : Int), .int .i64 (f.size : Int), .string ⟨f.first.toArray⟩, .string ⟨f.last.toArray⟩] := cR
            have hsz : (Try.prog.info? 33).map (·.size) = some [Value.int .i64 (f.num : Int), .int .i64 (f.lev : Int), .int .i64 (f.size : Int), .string ⟨f.first.toArray⟩, .string ⟨f.last.toArray⟩].length := size_fi
            have rna := rn.alloc (.cells #[.int .i64 (f.num : Int), .int .i64 (f.lev : Int), .int .i64 (f.size : Int), .string ⟨f.first.toArray⟩, .string ⟨f.last.toArray⟩] 33)
            have X1 := Blk.new wr #[.int .i64 (f.num : Int), .int .i64 (f.lev : Int), .int .i64 (f.size : Int), .string ⟨f.first.toArray⟩, .string ⟨f.last.toArray⟩] 33
            have hba := hbn.alloc hbn.size (.cells #[.int .i64 (f.num : Int), .int .i64 (f.lev : Int), .int .i64 (f.size : Int), .string ⟨f.first.toArray⟩, .string ⟨f.last.toArray⟩] 33)
            have cXa : (wr.alloc (.cells #[.int .i64 (f.num : Int), .int .i64 (f.lev : Int), .int .i64 (f.size : Int), .string ⟨f.first.toArray⟩, .string ⟨f.last.toArray⟩] 33)).cell? ⟨g1, f.num, none⟩ = some (.slice Ay ly cy) := ((below_alloc1 wr (.cells #[.int .i64 (f.num : Int), .int .i64 (f.lev : Int), .int .i64 (f.size : Int), .string ⟨f.first.toArray⟩, .string ⟨f.last.toArray⟩] 33)).cell (p := ⟨g1, f.num, none⟩) hg1).trans cX
            clear hEx hx hyT hf0 hg cR cX hRA rn hbn
            go_upto_region 43 with (refine wpList_load_mid rfl 33 (.tmp 168) rfl g (o + m * 5) rfl _ _ cR' Try.underlying33 rfl hsz ?_; go_frame)
            refine wp_world fun W1 hW1 => ?_
            have hg1' : g1 < W1.heap.size := by rw [hW1, World.size_alloc]; omega
            rw [← hW1] at rna X1 hba cXa
            clear hW1 cR' hsz d1 d1' q1 hg1
            obtain ⟨⟨x0, x1, x2, x3, x4⟩, -⟩ := free5 X1
            have e1 : decide ((f.num : Int) < 0) = false := decide_eq_false (by omega)
            have e2 : decide ((s.next : Int) ≤ (f.num : Int)) = false := decide_eq_false (by omega)
            have e2' : decide (s.next ≤ f.num) = false := decide_eq_false (by omega)
            have q3 : (f.num : Int) < (s.next : Int) := by omega
            have q4 : (0 : Int) ≤ (f.num : Int) := by omega
            have rnb := rna.alloc (.cells #[.slice Ay ly cy] 23)
            have hbb := hba.alloc hba.size (.cells #[.slice Ay ly cy] 23)
            have qx := new_cells W1 [.slice Ay ly cy] _ rfl 23
            have ox : ∀ u ∈ [Value.slice Ay ly cy], u.oneCell' = true := by
              intro u hu
              rw [List.mem_singleton.1 hu]
              rfl
            have hlm : (vl.length + 1) * 24 ≤ 140737488355328 := by omega
            clear rna hba X1
            go_wp2_with (at_builtin; refine wpList_append_row rfl info_sl (.tmp 180) (.tmp 186) 22 rfl und_ee rfl rnb ⟨W1.heap.size, 0, none⟩ 1 1 [.slice Ay ly cy] rfl rfl qx ox hlm ?_; intro v3 w3 rnc hg9 hr3; have hbc := below_grown_own hbb hbb.size hg9 hon; have hon3 := own_later hon hbb.size hr3)
            go_roundw
            case rel => exact ⟨m + 1, vl ++ [.slice Ay ly cy], hm1.out, rfl, rnc, htk, hon3, hbc⟩
            case measure => simp [intOf]; have := hm1.out; omega
          · have d1 : decide ((m : Int) < (ms : Int)) = false := decide_eq_false (by omega)
            have d1' : decide (m < ms) = false := decide_eq_false hmk
            rw [List.take_of_length_le (by have := hms.out; omega)] at hRA
            obtain ⟨A9, m9, c9, rfl, hm9, r9⟩ := erow_open r9
            replace hm9 := Lib.hid hm9
            obtain ⟨A24, m24, c24, rfl, hm24, rn⟩ := row1_open rn
            replace hm24 := Lib.hid hm24
            have r9d := ERow.at_ r9 hbn
            have hBd := hB.trans (hbn.mono hB.size)
            have hRA := Lib.hid (hRA.out.at_ hbn)
            have hend := Lib.hid hI.out.1.end_
            have htot := hI.out.1.tot
            have hWl := hI.out.2
            clear r9 hB hbn hon hfs r8 hT B7 hmm hmk q0 hI
            generalize wr = wd at *
            have rl : ERow (wd.alloc (.cells #[] 26)) (.slice (some ⟨wd.heap.size, 0, none⟩) 0 0) [] := RowN.build wd _ 3 [] #[] 0 rfl (by simp) rfl (by omega)
            have hbl := below_alloc1 wd (.cells #[] 26)
            have hol : (Value.slice (some ⟨wd.heap.size, 0, none⟩) 0 0).ownBlock = none ∨ ∃ k, wd.heap.size ≤ k ∧ (Value.slice (some ⟨wd.heap.size, 0, none⟩) 0 0).ownBlock = some k := .inr ⟨_, Nat.le_refl _, rfl⟩
            go_wp2
            clear d1 d1'
            go_loopw [27, 192] (fun lv i wr => ∃ (m : Nat), m ≤ m9 ∧ i = .int .i64 (m : Int) ∧ ERow wr lv ((W.take m).filter (fun x => !x.gone)) ∧ (lv.ownBlock = none ∨ ∃ k, wd.heap.size ≤ k ∧ lv.ownBlock = some k) ∧ Below wd.heap.size wd wr) (fun _ i _ => m9 - (intOf i).toNat)
            case atStart => exact ⟨0, Nat.zero_le _, rfl, rl, hol, hbl⟩
            case round =>
              clear rl hol hbl
              obtain ⟨m, hmm, rfl, rl, hol, hbl⟩ := hrel
              have q0 : (0 : Int) ≤ (m : Int) := by omega
              by_cases hmk : m < m9
              · have d1 : decide ((m : Int) < (m9 : Int)) = true := decide_eq_true (by omega)
                have d1' : decide (m < m9) = true := decide_eq_true hmk
                have q1 : (m : Int) < (m9 : Int) := by omega
                have hw2 : IntKind.i64.wrap ((m : Int) + 1) = ((m + 1 : Nat) : Int) := by rw [IntWalk.i64_in _ (by have := hm9.out; omega)]; omega
                have hm1 := Lib.hid (show m + 1 ≤ m9 by omega)
                obtain ⟨⟨kx, vx, ex⟩, hx⟩ : ∃ x, W[m]? = some x := ⟨_, List.getElem?_eq_getElem (by have := hm9.out; omega)⟩
                obtain ⟨g, o, rfl, hg, cR⟩ := eread_at (ERow.at_ r9d hbl).reads hx
                have htk := L.filter_snoc (fun x : L.En => !x.gone) hx
                have hvl : ((W.take m).filter (fun x => !x.gone)).length ≤ 200 := by
                  have := List.length_filter_le (fun x : L.En => !x.gone) (W.take m)
                  rw [List.length_take] at this
                  omega
                generalize (W.take m).filter (fun x => !x.gone) = acc at *
                have cR' : wr.rangeAt g (o + m * 3) [.string ⟨kx.toArray⟩, .string ⟨vx.toArray⟩, .bool ex] := cR
                have hsz : (Try.prog.info? 26).map (·.size) = some [Value.string ⟨kx.toArray⟩, .string ⟨vx.toArray⟩, .bool ex].length := size_en
                have rla := ERow.alloc rl (.cells #[.string ⟨kx.toArray⟩, .string ⟨vx.toArray⟩, .bool ex] 26)
                have X1 := Blk.new wr #[.string ⟨kx.toArray⟩, .string ⟨vx.toArray⟩, .bool ex] 26
                have hba := hbl.alloc hbl.size (.cells #[.string ⟨kx.toArray⟩, .string ⟨vx.toArray⟩, .bool ex] 26)
                clear hx hg cR rl hbl
                go_upto_region 51 with (refine wpList_load_mid rfl 26 (.tmp 194) rfl g (o + m * 3) rfl _ _ cR' Try.underlying26 rfl hsz ?_; go_frame)
                refine wp_world fun W1 hW1 => ?_
                rw [← hW1] at rla X1 hba
                clear hW1 cR' hsz d1 d1' q1
                obtain ⟨x0, x1, x2, -, -, -⟩ := free3 X1
                cases ex with
                | true =>
                  rw [if_neg (by simp), List.append_nil] at htk
                  replace htk := Lib.hid htk
                  go_wp2
                  go_roundw
                  case rel => exact ⟨m + 1, hm1.out, rfl, by rw [htk.out]; exact rla, hol, hba⟩
                  case measure => simp [intOf]; have := hm1.out; omega
                | false =>
                  rw [if_pos (by simp)] at htk
                  replace htk := Lib.hid htk
                  have rlb := ERow.alloc rla (.cells #[.string ⟨kx.toArray⟩, .string ⟨vx.toArray⟩, .bool false] 26)
                  have hbb := hba.alloc hba.size (.cells #[.string ⟨kx.toArray⟩, .string ⟨vx.toArray⟩, .bool false] 26)
                  have qx := new_cellsN W1 (enC ⟨kx, vx, false⟩) _ rfl 26
                  have ox := one_enC ⟨kx, vx, false⟩
                  have hlm : ((acc.map enC).length + 1) * 40 ≤ 140737488355328 := by rw [List.length_map]; omega
                  clear rla hba X1
                  go_wp2_with (at_builtin; refine wpList_append_rowN rfl info_en (.tmp 199) (.tmp 201) 23 rfl und_en rfl rlb ⟨W1.heap.size, 0, none⟩ 1 1 [enC ⟨kx, vx, false⟩] rfl rfl (len_enC _) qx ox hlm ?_; intro v3 w3 rlc hg9 hr3; have rlc := erow_snoc rlc; have hbc := below_grown_own hbb hbb.size hg9 hol; have hol3 := own_later hol hbb.size hr3)
                  go_roundw
                  case rel => exact ⟨m + 1, hm1.out, rfl, by rw [htk.out]; exact rlc, hol3, hbc⟩
                  case measure => simp [intOf]; have := hm1.out; omega
              · have d1 : decide ((m : Int) < (m9 : Int)) = false := decide_eq_false (by omega)
                have d1' : decide (m < m9) = false := decide_eq_false hmk
                rw [List.take_of_length_le (by have := hm9.out; omega)] at rl
                have hBz := hBd.trans (hbl.mono hBd.size)
                have LI := lists_any vl _ (.slice A24 m24 c24) true wr (rn.at_ hbl).reads (hRA.out.at_ hbl) (by rw [List.length_map]; omega) (by omega)
                rw [hend.out] at LI
                replace LI := Lib.hid LI
                have rl : ERow wr u27 (L.drop W) := rl
                have hDl : (L.drop W).length ≤ 1000000 := by
                  have : (L.drop W).length ≤ W.length := List.length_filter_le _ _
                  omega
                generalize L.drop W = D at *
                clear hmm hmk q0 hRA hend
                go_wp2_with (first | (go_at_call 4; refine LI.out.mono ?_; rintro e w4 ⟨v4, rfl, hr4, -, hb4⟩; have rlz := ERow.at_ rl hb4) | (go_at_call 10; refine (same_any D _ _ _ hr4.reads rlz.reads hDl).mono ?_; rintro e w5 ⟨rfl, hb5⟩))
                go_ret
                exact ⟨rfl, (hBz.trans (hb4.mono hBz.size)).trans (hb5.mono (hBz.trans (hb4.mono hBz.size)).size)⟩
end Go.Proofs.Ytnfabofkfnmplaa
