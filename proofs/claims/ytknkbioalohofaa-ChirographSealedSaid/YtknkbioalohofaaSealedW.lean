/- The walk of ChirographSealed. -/
import Derived.Test.YtknkbioalohofaaSealAwake
import Derived.Test.YtknkbioalohofaaPureCuts
import Derived.Test.YtknkbioalohofaaOpenT
import Derived.Test.YtknkbioalohofaaKitL
import Derived.Test.YtknkbioalohofaaWMac
import Derived.Test.YtknkbioalohofaaWWText
import Derived.Test.YtknkbioalohofaaWRText
namespace Go.Proofs.Ytknkbioalohofaa
open Go.ChangeShapes Go.WideShapes Go.ChangeAt Go.RowKit

theorem cells_u8' : Try.prog.cellsOf 5 = 1 := by kernel_rfl
theorem cells_lab' : Try.prog.cellsOf 50 = 32 := by kernel_rfl
theorem formed_lab (l : List UInt8) (h : l.length = 32) : (Value.agg (labA l)).formed Try.prog 50 = true := by
  simp [Value.formed, Try.underlying50, labA_size, h, cells_lab']
theorem lits_lab (l : List UInt8) (h : l.length = 32) (d : Nat) : Try.prog.keyLits (d + 2) 50 (labA l).toList = some (l.map byteL) := by
  unfold labA
  rw [List.toList_toArray]
  exact lits_bytes l h Try.underlying50 Try.underlying5 cells_u8' cells_lab' d
theorem neq_lab (l m : List UInt8) (hl : l.length = 32) (hm : m.length = 32) (w : World) : (binOp .neq 50 (.agg (labA l)) (.agg (labA m))).run Try.prog w = .ok (.bool (!(l == m))) w :=
  neq_lits (m := 2) (D := 2) (D' := 2) (by kernel_rfl) (by omega) (formed_lab l hl) (formed_lab m hm) (lits_lab l hl 0) (lits_lab m hm 0) (by rw [map_byteL]; simp) w
theorem guard_lab : Try.prog.eqGuardType Try.prog.depth 50 = false := by kernel_rfl
/-- A label out of a row, as one step. -/
theorem wp_load_labAt {o : Oper} {a : Act} {w : World} {Q : Exit → Act → World → Prop} {K : Act → World → Prop} {g i : Nat} {l : List UInt8} (x : Operand) (ho : o.op = .load 50 x) (hx : a.eval x = .pointer (some ⟨g, i, none⟩)) (b : w.rangeAt g i (l.map byteV)) (hl : l.length = 32)
    (hk : K (a.put o.dst (.agg (labA l))) w) : o.wp Try.prog a w K Q :=
  wp_load_mid 50 x ho g i hx (l.map byteV) _ b Try.underlying50 (by rfl) (by rw [List.length_map, hl]; kernel_rfl) hk
theorem range_below {w w' : World} {g i : Nat} {cs : List Value} (h : w.rangeAt g i cs) (hg : g < w.heap.size) (hb : Below w.heap.size w w') : w'.rangeAt g i cs := fun j v hj => (hb.cell (p := ⟨g, i + j, none⟩) hg).trans (h j v hj)

/-- The texts of the first k, cut. -/
def sCuts (ts : List (List UInt8)) (k : Nat) : List (List UInt8) := (ts.take k).map (·.take 200)
theorem sCuts_succ (ts : List (List UInt8)) (k : Nat) (h : k < ts.length) : sCuts ts (k + 1) = sCuts ts k ++ [ts[k].take 200] := by
  unfold sCuts; rw [List.take_succ_eq_append_getElem h, List.map_append]; rfl
theorem sCuts_len (ts : List (List UInt8)) (k : Nat) (h : k ≤ ts.length) : (sCuts ts k).length = k := by unfold sCuts; simp; omega
theorem sCuts_le (ts : List (List UInt8)) (k : Nat) : ∀ t ∈ sCuts ts k, t.length ≤ 200 := by
  intro t ht
  obtain ⟨x, _, rfl⟩ := List.mem_map.1 ht
  rw [List.length_take]; omega
theorem textB_le (t : List UInt8) (h : t.length ≤ 200) : (D.textB t).length ≤ 209 := by
  have := D.numB_le9 t.length (by omega)
  unfold D.textB
  rw [List.length_append]; omega
def sFr (U : List (List UInt8)) : List UInt8 := C.frames (U.map D.textB)
theorem sFr_le : ∀ (U : List (List UInt8)), (∀ t ∈ U, t.length ≤ 200) → (sFr U).length ≤ 217 * U.length
  | [], _ => by simp [sFr, C.frames]
  | t :: U, h => by
    have := sFr_le U fun x hx => h x (List.mem_cons_of_mem _ hx)
    have := textB_le t (h t (List.mem_cons_self ..))
    have e : sFr (t :: U) = C.wrap (D.textB t) ++ sFr U := C.frames_cons _ _
    rw [e, List.length_append, C.wrap_length, List.length_cons]; omega
theorem sFr_snoc (U : List (List UInt8)) (t : List UInt8) : sFr (U ++ [t]) = sFr U ++ C.wrap (D.textB t) := by
  unfold sFr
  rw [List.map_append, C.frames_append]
  simp [C.frames]
theorem sFr_all (U : List (List UInt8)) (h : ∀ t ∈ U, t.length ≤ 200) : C.all (sFr U) = (U.map D.textB, (sFr U).length) := by
  have := C.all_frames (U.map D.textB) [] (fun t ht => by
    obtain ⟨x, hx, rfl⟩ := List.mem_map.1 ht
    have := textB_le x (h x hx)
    omega)
  rw [List.append_nil] at this
  unfold sFr
  rw [this, show C.all [] = ([], 0) from C.all_none C.opn_nil]
  simp
theorem RowL.ne_row {w : World} {e : TypeId} {v v' : Value} {l : List (List UInt8)} {ys : List Value} (h : RowL w v l) (h' : Row1 w e v' ys) (hne : 50 ≠ e) : ∀ g, v.ownBlock = some g → v'.ownBlock ≠ some g := by
  intro g hg hg'
  rcases h.2 with ⟨rfl, _⟩ | ⟨b, cap, cur, rfl, _, hh, _⟩
  · simp [Value.ownBlock] at hg
  · rcases h'.2 with ⟨rfl, _⟩ | ⟨b', cap', cur', rfl, _, hh', _⟩
    · simp [Value.ownBlock] at hg'
    · simp only [Value.ownBlock, Option.some.injEq] at hg hg'
      subst hg hg'
      rw [hh] at hh'
      injection hh' with hh'
      injection hh' with _ ht
      exact hne ht
theorem apart_flip {v v' : Value} (h : ∀ g, v.ownBlock = some g → v'.ownBlock ≠ some g) : ∀ g, v'.ownBlock = some g → v.ownBlock ≠ some g := fun g h1 h2 => h g h2 h1
theorem apart_later {v v' u : Value} {w : World} (h : ∀ g, v.ownBlock = some g → u.ownBlock ≠ some g) (hu : ∀ g, u.ownBlock = some g → g < w.heap.size) (hr : v'.ownBlock = v.ownBlock ∨ ∃ k, w.heap.size ≤ k ∧ v'.ownBlock = some k) : ∀ g, v'.ownBlock = some g → u.ownBlock ≠ some g := by
  rcases hr with e | ⟨k, hk, e⟩
  · rw [e]; exact h
  · intro g hg hg'
    rw [e] at hg
    injection hg with hg
    have := hu g hg'
    omega
set_option maxRecDepth 100000 in
set_option maxHeartbeats 4000000 in
theorem sealed_walk (ts : List (List UInt8)) (vt : Value) (key0 : List UInt8) (w : World) (hts : SRead w vt (ts.map strV)) :
    Calls Try.prog 8 #[vt, .string ⟨key0.toArray⟩] w fun e w' => e = .returned (.bool true) ∧ Below w.heap.size w w' := by
  obtain ⟨A, cT, rfl, hc1, h3⟩ := hts
  rw [List.length_map] at hc1 ⊢
  have h00 := lcut_any key0 100
  rw [show ((100 : Nat) : Int) = 100 from rfl] at h00
  have hkl : (key0.take 100).length ≤ 100 := by rw [List.length_take]; omega
  generalize key0.take 100 = key at h00 hkl
  have H00 := Lib.hid h00
  clear h00
  have h0 : ∀ (s : List UInt8) (w : World), Calls Try.prog 19 #[.string ⟨s.toArray⟩, .int .i64 200] w fun e w' => e = .returned (.string ⟨(s.take 200).toArray⟩) ∧ w = w' := fun s w => lcut_any s 200 w
  have H0 := Lib.hid h0
  clear h0
  have ra := (RowL.made w).alloc (.cells #[] 50)
  have rb := RowL.made (w.alloc (.cells #[] 50))
  have ra := ra.alloc (.cells #[] 9)
  have rb := rb.alloc (.cells #[] 9)
  have rc := Row1.build ((w.alloc (.cells #[] 50)).alloc (.cells #[] 50)) 9 [] #[] 0 rfl rfl (by omega)
  have hB0 := ((below_alloc1 w (.cells #[] 50)).alloc (by simp) (.cells #[] 50)).alloc (by simp; omega) (.cells #[] 9)
  have hab : ∀ g, (Value.slice (some ⟨w.heap.size, 0, none⟩) 0 0).ownBlock = some g → (Value.slice (some ⟨w.heap.size + 1, 0, none⟩) 0 0).ownBlock ≠ some g := by
    intro g h1 h2
    simp [Value.ownBlock] at h1 h2
    omega
  simp only [World.size_alloc] at rb rc
  go_enter Try.func8, Try.ntmps8
  go_wp2_with (go_at_call 19; (with_reducible refine (H00.out _).mono ?_); rintro e w0 ⟨rfl, rfl⟩)
  go_loopw [5, 6, 7, 8, 9] (fun s a b c i wr => ∃ (k : Nat) (F : ByteArray) (va vb vc : Value), va = a ∧ vb = b ∧ vc = c ∧ k ≤ ts.length ∧ k ≤ 8 ∧ i = .int .i64 (k : Int) ∧ s = .string F ∧ Hid (F = ⟨(sFr (sCuts ts k)).toArray⟩) ∧ RowL wr va ((sCuts ts k).map S.sum) ∧ RowL wr vb ((sCuts ts k).map (S.mac key)) ∧ Row1 wr 9 vc ((sCuts ts k).map strV) ∧ (va.ownBlock = none ∨ ∃ k, w.heap.size ≤ k ∧ va.ownBlock = some k) ∧ (vb.ownBlock = none ∨ ∃ k, w.heap.size ≤ k ∧ vb.ownBlock = some k) ∧ (vc.ownBlock = none ∨ ∃ k, w.heap.size ≤ k ∧ vc.ownBlock = some k) ∧ (∀ g, va.ownBlock = some g → vb.ownBlock ≠ some g) ∧ Below w.heap.size w wr) (fun _ _ _ _ i _ => ts.length - (intOf i).toNat)
  case atStart => exact ⟨0, _, _, _, _, rfl, rfl, rfl, Nat.zero_le _, Nat.zero_le _, rfl, rfl, Lib.hid (by simp [sCuts, sFr, C.frames]), ra, rb, rc, .inr ⟨_, Nat.le_refl _, rfl⟩, .inr ⟨w.heap.size + 1, by omega, rfl⟩, .inr ⟨w.heap.size + 1 + 1, by omega, rfl⟩, hab, hB0⟩
  case round =>
    clear ra rb rc hB0 hab
    obtain ⟨k, F, va0, vb0, vc0, rfl, rfl, rfl, hk1, hk2, rfl, rfl, hF, ra, rb, rc, oa, ob, oc, hab, hB⟩ := hrel
    have k0 : (0 : Int) ≤ (k : Int) := by omega
    have k8 : (k : Int) ≤ 8 := by omega
    have hul := sCuts_len ts k hk1
    have hle := sCuts_le ts k
    have hfl := sFr_le (sCuts ts k) hle
    rw [hul] at hfl
    by_cases hlt : k < ts.length ∧ k < 8
    · obtain ⟨hlt1, hlt2⟩ := hlt
      have d1 : decide ((k : Int) < (ts.length : Int)) = true := by simp; omega
      have d1' : decide (k < ts.length) = true := by simp; omega
      have d2 : decide ((k : Int) < 8) = true := by simp; omega
      have d2' : decide (k < 8) = true := by simp; omega
      have h3' := h3.resolve_left (by intro e; have e2 := congrArg List.length e; rw [List.length_map] at e2; simp at e2; rw [e2] at hlt1; simp at hlt1)
      obtain ⟨g1, o1, rfl, hg1, hcell1⟩ := h3'
      have e1 := hcell1 k (strV ts[k]) (by simp [hlt1])
      have e1' := (hB.cell (p := ⟨g1, o1 + k, none⟩) hg1).trans e1
      have i1 : (k : Int) < (ts.length : Int) := by omega
      have Hs := Lib.hid (sCuts_succ ts k hlt1)
      have htl : (ts[k].take 200).length ≤ 200 := by rw [List.length_take]; omega
      have H0' := Lib.hid (H0.out ts[k])
      unfold strV at e1'
      clear e1 hcell1 h3
      generalize ts[k].take 200 = t at *
      generalize ts[k] = tk at *
      have htb := textB_le t htl
      have WT := Lib.hid (fun W => wtext_any t (by omega) W.heap.size (.slice none 0 0) [] (W.alloc (.cells #[.slice none 0 0, .int .i64 0] 46)) (wst_new W) (by simp))
      rw [List.nil_append] at WT
      have WD := Lib.hid (fun g v W (h : Wst W g v (D.textB t)) => wdone_any g v (D.textB t) W h (by omega))
      have WR := Lib.hid (wrap_any (D.textB t) (by omega))
      have SS := Lib.hid (fun W => sum_any t W (by omega))
      have MM := Lib.hid (fun W => mac_any key t W (by omega) (by omega))
      have ls := S.sum_length t
      have lm := S.mac_length key t
      have hadd := str_add (sFr (sCuts ts k)) (C.wrap (D.textB t)) (by rw [C.wrap_length]; omega)
      rw [← sFr_snoc, ← Hs.out, ← hF.out] at hadd
      have hl1 : (((sCuts ts k).map strV).length + 1) * 16 ≤ 140737488355328 := by rw [List.length_map, hul]; omega
      have hl2 : ((sCuts ts k).map S.sum).length ≤ 1000000 := by rw [List.length_map, hul]; omega
      have hl3 : ((sCuts ts k).map (S.mac key)).length ≤ 1000000 := by rw [List.length_map, hul]; omega
      have Hc : Hid ((sCuts ts k).map strV ++ [strV t] = (sCuts ts (k + 1)).map strV) := Lib.hid (by rw [Hs.out]; simp)
      have Ha : Hid ((sCuts ts k).map S.sum ++ [S.sum t] = (sCuts ts (k + 1)).map S.sum) := Lib.hid (by rw [Hs.out]; simp)
      have Hb : Hid ((sCuts ts k).map (S.mac key) ++ [S.mac key t] = (sCuts ts (k + 1)).map (S.mac key)) := Lib.hid (by rw [Hs.out]; simp)
      clear hle hfl hul hF
      generalize hF2 : (⟨(sFr (sCuts ts (k + 1))).toArray⟩ : ByteArray) = F2 at *
      have HF2 := Lib.hid hF2
      clear hF2
      generalize (sCuts ts k).map S.sum = a1 at *
      generalize (sCuts ts k).map (S.mac key) = b1 at *
      generalize (sCuts ts k).map strV = c1 at *
      generalize (⟨(C.wrap (D.textB t)).toArray⟩ : ByteArray) = W1 at *
      generalize S.sum t = sm at *
      generalize S.mac key t = mc at *
      generalize (⟨(D.textB t).toArray⟩ : ByteArray) = TB at *
      clear htb htl
      go_wp2_with (first | (go_at_call 19; (with_reducible refine (H0'.out _).mono ?_); rintro e w1 ⟨rfl, rfl⟩) | (at_builtin; refine wpList_append_row rfl info_str (.tmp 42) (.tmp 44) 35 rfl Try.underlying35 rfl (rc.alloc _) ⟨wr.heap.size, 0, none⟩ 1 1 [strV t] rfl rfl (new_cells _ _ _ rfl _) (str_one [t]) hl1 ?_; intro vc w1 rc1 hg1' hr1; have ra1 := (ra.alloc (.cells #[strV t] 9)).grown hg1' (ra.ne_row rc (by decide)); have rb1 := (rb.alloc (.cells #[strV t] 9)).grown hg1' (rb.ne_row rc (by decide)); have hB1 := below_grown_own (hB.alloc hB.size (.cells #[strV t] 9)) (hB.alloc hB.size (.cells #[strV t] 9)).size hg1' oc; have oc1 := own_later oc (hB.alloc hB.size (.cells #[strV t] 9)).size hr1; rw [Hc.out] at rc1; clear ra rb rc hg1' hr1 oc hB) | (go_at_call 30; (with_reducible refine (WT.out w1).mono ?_); rintro e w2 ⟨rfl, v2, hw2, ht2⟩; have hb2 := ht2.below (below_alloc1 w1 _) (by simp) (Nat.le_refl _) (fun b _ e => (by simp [Value.ownBlock] at e)); replace ra1 := ra1.at_ hb2; replace rb1 := rb1.at_ hb2; replace rc1 := rc1.at_ hb2; replace hB1 := hB1.trans (hb2.mono hB1.size); clear ht2) | (go_at_call 31; (with_reducible refine (WD.out _ _ _ hw2).mono ?_); rintro e w3 ⟨rfl, rfl⟩) | (go_at_call 20; (with_reducible refine (WR.out _).mono ?_); rintro e w4 ⟨rfl, hb4⟩; replace ra1 := ra1.at_ hb4; replace rb1 := rb1.at_ hb4; replace rc1 := rc1.at_ hb4; replace hB1 := hB1.trans (hb4.mono hB1.size)) | (go_at_call 32; (with_reducible refine (SS.out _).mono ?_); rintro e w5 ⟨rfl, hb5⟩; replace ra1 := ra1.at_ hb5; replace rb1 := rb1.at_ hb5; replace rc1 := rc1.at_ hb5; replace hB1 := hB1.trans (hb5.mono hB1.size)) | (refine wpList_build_lab rfl 68 (by rfl) (by rfl) ls ?_; simp only [Act.put, List.setIfInBounds_toArray, List.set_cons_succ, List.set_cons_zero]) | (at_builtin; refine wpList_append_rowL rfl (.tmp 66) (.tmp 69) rfl rfl (ra1.alloc _) ⟨w5.heap.size, 0, none⟩ 1 sm ls rfl (new_cells _ _ _ rfl _) hl2 ?_; intro va w6 ra2 hg6 hr6; have rb2 := (rb1.alloc (.cells (labA sm) 50)).grown hg6 (apart_flip hab); have rc2 := (rc1.alloc (.cells (labA sm) 50)).grown hg6 (apart_flip (ra1.ne_row rc1 (by decide))); have hB2 := below_grown_own (hB1.alloc hB1.size (.cells (labA sm) 50)) (hB1.alloc hB1.size (.cells (labA sm) 50)).size hg6 oa; have oa2 := own_later oa (hB1.alloc hB1.size (.cells (labA sm) 50)).size hr6; have hab2 := apart_later (w := w5.alloc (.cells (labA sm) 50)) hab (fun g hg => (rb1.alloc (.cells (labA sm) 50)).lt hg) hr6; rw [Ha.out] at ra2; clear ra1 rb1 rc1 hg6 hr6 oa hB1 hab) | (go_at_call 33; (with_reducible refine (MM.out _).mono ?_); rintro e w7 ⟨rfl, hb7⟩; replace ra2 := ra2.at_ hb7; replace rb2 := rb2.at_ hb7; replace rc2 := rc2.at_ hb7; replace hB2 := hB2.trans (hb7.mono hB2.size)) | (refine wpList_build_lab rfl 74 (by rfl) (by rfl) lm ?_; simp only [Act.put, List.setIfInBounds_toArray, List.set_cons_succ, List.set_cons_zero]) | (at_builtin; refine wpList_append_rowL rfl (.tmp 71) (.tmp 75) rfl rfl (rb2.alloc _) ⟨w7.heap.size, 0, none⟩ 1 mc lm rfl (new_cells _ _ _ rfl _) hl3 ?_; intro vb w8 rb3 hg8 hr8))
      have ra3 := (ra2.alloc (.cells (labA mc) 50)).grown hg8 hab2
      have rc3 := (rc2.alloc (.cells (labA mc) 50)).grown hg8 (apart_flip (rb2.ne_row rc2 (by decide)))
      have hB3a := hB2.alloc hB2.size (.cells (labA mc) 50)
      have hB3 := below_grown_own hB3a hB3a.size hg8 ob
      have ob2 := own_later ob hB3a.size hr8
      have hab3 := apart_flip (apart_later (w := w7.alloc (.cells (labA mc) 50)) (apart_flip hab2) (fun g hg => (ra2.alloc (.cells (labA mc) 50)).lt hg) hr8)
      rw [Hb.out] at rb3
      exact ⟨⟨k + 1, _, _, _, _, rfl, rfl, rfl, by omega, by omega, by go_num, rfl, Lib.hid HF2.out.symm, ra3, rb3, rc3, oa2, ob2, oc1, hab3, hB3⟩, by simp [intOf]; omega⟩
    · have hcase : (decide (k < ts.length) = false ∧ decide ((k : Int) < (ts.length : Int)) = false) ∨ (decide (k < ts.length) = true ∧ decide ((k : Int) < (ts.length : Int)) = true ∧ decide ((k : Int) < 8) = false ∧ decide (k < 8) = false) := by
        by_cases hk : k < ts.length
        · exact .inr ⟨by simp; omega, by simp; omega, by simp; omega, by simp; omega⟩
        · exact .inl ⟨by simp; omega, by simp; omega⟩
      generalize sCuts ts k = U at *
      have hz := str_size (sFr U)
      rw [← hF.out] at hz
      have hall := sFr_all U hle
      have AA := Lib.hid (fun W => all_any (sFr U) (by omega) W)
      rw [hall, ← hF.out] at AA
      dsimp only at AA
      have hlm : ((U.map D.textB).map strV).length = k := by rw [List.length_map, List.length_map, hul]
      have hlc : (U.map strV).length = k := by rw [List.length_map, hul]
      have SC0 : ∀ W, Calls Try.prog 22 #[.string ⟨#[49, 50, 51, 52, 53, 54, 55, 56, 57]⟩] W fun e w' => e = .returned (.int .u32 ((C.check digits9).toNat : Int)) ∧ Below W.heap.size W w' := fun W => check_any digits9 (by decide) W
      rw [check9, show ((3421780262 : Nat) : Int) = 3421780262 from rfl] at SC0
      have SC := Lib.hid SC0
      clear SC0
      have hzi : (F.size : Int) = ((sFr U).length : Int) := by rw [hz]
      have hd1 : ((((sFr U).length : Nat) : Int) != (F.size : Int)) = false := by rw [hzi]; simp
      have Hul := Lib.hid hul
      have Hle := Lib.hid hle
      have hlen : ((sFr U).length : Int) ≤ 1736 := by omega
      clear hlt h3 hle hul hall hfl hz
      generalize hn : (sFr U).length = n at *
      clear hn hF
      have hc : Hid (SRead wr vc0 (U.map strV)) := Lib.hid rc.reads
      clear rc oc
      rcases hcase with ⟨hc1', hc2'⟩ | ⟨hc1', hc2', hc3', hc4'⟩
      · have _t := trivial
        obtain ⟨Ac, cc, ec, hcc, hcell⟩ := hc.out
        rw [hlc] at ec hcc
        subst ec
        clear hc
        go_wp2_with (first | (go_at_call 27; (with_reducible refine (AA.out _).mono ?_); rintro e w1 ⟨v, rfl, hrl, hol, hb1⟩; obtain ⟨Al, cl, ev, hcl, hcelll⟩ := hrl.reads; rw [hlm] at ev hcl; subst ev) | (go_at_call 22; (with_reducible refine (SC.out _).mono ?_); rintro e w2 ⟨rfl, hb2⟩))
        have hb12 := hb1.trans (hb2.mono hb1.size)
        have ra := ra.at_ hb12
        have rb := rb.at_ hb12
        have hB := hB.trans (hb12.mono hB.size)
        have hC : Hid (∀ j t, U[j]? = some t → ∃ g o, Ac = some ⟨g, o, none⟩ ∧ g < w2.heap.size ∧ w2.cell? ⟨g, o + j, none⟩ = some (.string ⟨t.toArray⟩)) := Lib.hid fun j t hj => by
          have h1 := hcell.resolve_left (by intro e; rw [List.map_eq_nil_iff] at e; rw [e] at hj; simp at hj)
          obtain ⟨g, o, e, hg, hcl⟩ := h1
          exact ⟨g, o, e, Nat.lt_of_lt_of_le hg hb12.size, (hb12.cell (p := ⟨g, o + j, none⟩) hg).trans (hcl j _ (by rw [List.getElem?_map, hj]; rfl))⟩
        have hL : Hid (∀ j t, U[j]? = some t → ∃ g o, Al = some ⟨g, o, none⟩ ∧ g < w2.heap.size ∧ w2.cell? ⟨g, o + j, none⟩ = some (.string ⟨(D.textB t).toArray⟩)) := Lib.hid fun j t hj => by
          have h1 := hcelll.resolve_left (by intro e; rw [List.map_eq_nil_iff, List.map_eq_nil_iff] at e; rw [e] at hj; simp at hj)
          obtain ⟨g, o, e, hg, hcl⟩ := h1
          exact ⟨g, o, e, Nat.lt_of_lt_of_le hg hb2.size, (hb2.cell (p := ⟨g, o + j, none⟩) hg).trans (hcl j _ (by rw [List.getElem?_map, List.getElem?_map, hj]; rfl))⟩
        clear hb1 hb2 hcell hcelll hrl hol AA SC hb12
        go_loopw [99] (fun x wr => ∃ j : Nat, x = .int .i64 (j : Int) ∧ j ≤ k ∧ Below w2.heap.size w2 wr) (fun x _ => k - (intOf x).toNat)
        case atStart => exact ⟨0, rfl, Nat.zero_le _, Below.refl _ _⟩
        case round =>
          obtain ⟨j, rfl, hj, hb⟩ := hrel
          have j0 : (0 : Int) ≤ (j : Int) := by omega
          have j8 : (j : Int) ≤ 8 := by omega
          by_cases hjt : j < k
          · have d3 : decide ((j : Int) < (k : Int)) = true := by simp; omega
            have d3' : decide (j < k) = true := by simpa using hjt
            have jl : (j : Int) < (k : Int) := by omega
            obtain ⟨t, ht⟩ : ∃ t, U[j]? = some t := ⟨_, List.getElem?_eq_getElem (by have := Hul.out; omega)⟩
            have htl := Hle.out t (List.mem_of_getElem? ht)
            have htb := textB_le t htl
            obtain ⟨gc, oc, rfl, hgc, kc⟩ := hC.out j t ht
            obtain ⟨gl, ol, rfl, hgl, kl⟩ := hL.out j t ht
            have kl1 := (hb.cell (p := ⟨gl, ol + j, none⟩) hgl).trans kl
            obtain ⟨ga, ca, rfl, hca⟩ := ra.form.resolve_left (by intro e; have := congrArg List.length e.2; rw [List.length_map, Hul.out] at this; simp at this; omega)
            obtain ⟨gb, cb, rfl, hcb⟩ := rb.form.resolve_left (by intro e; have := congrArg List.length e.2; rw [List.length_map, Hul.out] at this; simp at this; omega)
            have ga_lt := ra.lt rfl
            have gb_lt := rb.lt rfl
            have ka := ra.range (fun y hy => by obtain ⟨z, _, rfl⟩ := List.mem_map.1 hy; exact S.sum_length z) rfl (j := j) (x := S.sum t) (by rw [List.getElem?_map, ht]; rfl)
            have kb := rb.range (fun y hy => by obtain ⟨z, _, rfl⟩ := List.mem_map.1 hy; exact S.mac_length key z) rfl (j := j) (x := S.mac key t) (by rw [List.getElem?_map, ht]; rfl)
            have hlU : (U.map S.sum).length = k := by rw [List.length_map, Hul.out]
            have hlV : (U.map (S.mac key)).length = k := by rw [List.length_map, Hul.out]
            have OP := Lib.hid (fun W => ropen_any (D.textB t) (by omega) W)
            have hnum := D.number_back [] t t.length (by omega)
            rw [List.nil_append, show ([] : List UInt8).length = 0 from rfl] at hnum
            have htxt := D.rtext_back t (by omega)
            rw [show D.numB t.length ++ t = D.textB t from rfl] at hnum htxt
            have RT := Lib.hid (fun g W (h : Rst W g (D.textB t) ⟨0, 0⟩) => rtext_any (D.textB t) (by omega) ⟨0, 0⟩ (by rw [hnum]) (by rw [hnum]; simp only; omega) g W h)
            rw [htxt] at RT
            have hdn := D.done_end (D.textB t)
            have RD := Lib.hid (fun g W (h : Rst W g (D.textB t) ⟨(D.textB t).length, 0⟩) => rdone_any (D.textB t) ⟨(D.textB t).length, 0⟩ g W h)
            rw [hdn, show ((0 : Nat) : Int) = 0 from rfl] at RD
            have SS := Lib.hid (fun W => sum_any t W (by omega))
            have MM := Lib.hid (fun W => mac_any key t W (by omega) (by omega))
            have ls := S.sum_length t
            have lm := S.mac_length key t
            rw [hlU, hlV] at *
            generalize S.sum t = sm at *
            generalize S.mac key t = mc at *
            have qs := beq_self_eq_true sm
            have qm := beq_self_eq_true mc
            generalize hTB : (⟨(D.textB t).toArray⟩ : ByteArray) = TB at *
            have HTB := Lib.hid hTB
            clear hTB hnum htxt hdn
            generalize (⟨t.toArray⟩ : ByteArray) = T at *
            have kc1 := (hb.cell (p := ⟨gc, oc + j, none⟩) hgc).trans kc
            have ka1 := range_below ka ga_lt hb
            have kb1 := range_below kb gb_lt hb
            have hz2 := hb.size
            have gc1 : gc < wr.heap.size := by omega
            have ga1 : ga < wr.heap.size := Nat.lt_of_lt_of_le ga_lt hb.size
            have gb1 : gb < wr.heap.size := Nat.lt_of_lt_of_le gb_lt hb.size
            go_wp2_with (first | (go_at_call 34; (with_reducible refine (OP.out _).mono ?_); rintro e w3 ⟨rfl, hr3, hb3, hz3⟩) | (go_at_call 35; (with_reducible refine (RT.out _ _ hr3).mono ?_); rintro e w4 ⟨rfl, hr4, hg4⟩))
            have hb4 : Below wr.heap.size wr w4 := below_grown hb3 hb3.size hg4 (fun x hx => by injection hx with hx; omega)
            have kc2 := (hb4.cell (p := ⟨gc, oc + j, none⟩) gc1).trans kc1
            have ka3 := range_below ka1 ga1 hb4
            have kb3 := range_below kb1 gb1 hb4
            have ka2 : w4.drew.rangeAt ga (j * 32) (sm.map byteV) := ka3
            have kb2 : w4.drew.rangeAt gb (j * 32) (mc.map byteV) := kb3
            have gc2 : gc < w4.drew.heap.size := Nat.lt_of_lt_of_le gc1 hb4.size
            have ga2 : ga < w4.drew.heap.size := Nat.lt_of_lt_of_le ga1 hb4.size
            have gb2 : gb < w4.drew.heap.size := Nat.lt_of_lt_of_le gb1 hb4.size
            have hr5 := hr4.drew
            clear ka kb ka1 kb1 kl kl1 kc kc1 OP RT hr3 hb3 hg4
            apply wp_region_rel_below [[(20, none)], [(108, some 0)], [(109, some 1)], [(110, some 2)], [(21, none), (111, some 3)], [(8, none), (111, some 3)], [(18, none), (111, some 3)], [(113, some 5), (114, some 6), (111, some 3)], [(115, some 7), (111, some 3)], [(112, some 4), (116, some 8), (111, some 3)], [(111, some 3), (117, some 9)], [(118, some 10)], [(21, none), (119, some 11)], [(120, some 12), (119, some 11)], [(6, none), (119, some 11)], [(18, none), (119, some 11)], [(122, some 14), (123, some 15), (119, some 11)], [(124, some 16), (119, some 11)], [(121, some 13), (125, some 17), (119, some 11)], [(119, some 11), (126, some 18)], [(127, some 19)], [(1, none), (128, some 20)], [(21, none), (128, some 20)], [(129, some 21), (130, some 22), (128, some 20)], [(7, none), (128, some 20)], [(18, none), (128, some 20)], [(132, some 24), (133, some 25), (128, some 20)], [(134, some 26), (128, some 20)], [(131, some 23), (135, some 27), (128, some 20)], [(128, some 20), (136, some 28)]] [eqv _, eqv _, eqv _, eqv _, eqv _, eqv _, eqv _, eqv _, eqv _, eqv _, eqv _, eqv _, eqv _, eqv _, eqv _, eqv _, eqv _, eqv _, eqv _, eqv _, eqv _, eqv _, eqv _, eqv _, eqv _, eqv _, eqv _, eqv _, eqv _, eqv _] (by kernel_rfl) (by kernel_rfl)
            case hobs =>
              refine ⟨?_, ?_⟩
              · rintro L a1 w1 hT - - ⟨h20, -⟩   -- 0: Op.move t20
                have e20 : a1.tmps.getD 20 undef = _ := h20
                have f20 := getD_form e20
                clear h20
                go_simp; exact left_intro rfl (Stp.refl _) trivial
              refine ⟨?_, ?_⟩
              · rintro L a1 w1 hT - - ⟨h108, -⟩   -- 1: Op.call { value (Operand.func 36), args := #[t108], argTypes := #[53] }
                have e108 : a1.tmps.getD 108 undef = _ := h108
                have f108 := getD_form e108
                clear h108
                have hr6 := Rst.below (w := w4.drew) hr5 hT
                go_simp; go_at_call 36; (with_reducible refine (RD.out _ _ hr6).mono ?_); rintro e w2 ⟨rfl, n, rfl⟩; exact left_intro rfl (Stp.of (below_refl_drewN _ n)) trivial
              refine ⟨?_, ?_⟩
              · rintro L a1 w1 hT - - ⟨h109, -⟩   -- 2: Op.binOp BinOp.neq 23 t109 (const (0:i64)) 23
                have e109 : a1.tmps.getD 109 undef = _ := h109
                have f109 := getD_form e109
                clear h109
                go_simp; exact left_intro rfl (Stp.refl _) trivial
              refine ⟨?_, ?_⟩
              · rintro L a1 w1 hT - - ⟨h110, -⟩   -- 3: Op.move t110
                have e110 : a1.tmps.getD 110 undef = _ := h110
                have f110 := getD_form e110
                clear h110
                go_simp; exact left_intro rfl (Stp.refl _) trivial
              refine ⟨?_, ?_⟩
              · rintro L a1 w1 hT - - ⟨h21, h111, -⟩   -- 4: Op.move t21
                have e21 : a1.tmps.getD 21 undef = _ := h21
                have f21 := getD_form e21
                have e111 : a1.tmps.getD 111 undef = _ := h111
                have f111 := getD_form e111
                clear h21 h111
                refine ⟨false, 111, by rfl, e111, ?_⟩; rw [if_pos rfl]
                go_simp; exact left_intro rfl (Stp.refl _) trivial
              refine ⟨?_, ?_⟩
              · rintro L a1 w1 hT - - ⟨h8, h111, -⟩   -- 5: Op.move t8
                have e8 : a1.tmps.getD 8 undef = _ := h8
                have f8 := getD_form e8
                have e111 : a1.tmps.getD 111 undef = _ := h111
                have f111 := getD_form e111
                clear h8 h111
                refine ⟨false, 111, by rfl, e111, ?_⟩; rw [if_pos rfl]
                go_simp; exact left_intro rfl (Stp.refl _) trivial
              refine ⟨?_, ?_⟩
              · rintro L a1 w1 hT - - ⟨h18, h111, -⟩   -- 6: Op.move t18
                have e18 : a1.tmps.getD 18 undef = _ := h18
                have f18 := getD_form e18
                have e111 : a1.tmps.getD 111 undef = _ := h111
                have f111 := getD_form e111
                clear h18 h111
                refine ⟨false, 111, by rfl, e111, ?_⟩; rw [if_pos rfl]
                go_simp; exact left_intro rfl (Stp.refl _) trivial
              refine ⟨?_, ?_⟩
              · rintro L a1 w1 hT - - ⟨h113, h114, h111, -⟩   -- 7: Op.indexAddr 35 t113 t114
                have e113 : a1.tmps.getD 113 undef = _ := h113
                have f113 := getD_form e113
                have e114 : a1.tmps.getD 114 undef = _ := h114
                have f114 := getD_form e114
                have e111 : a1.tmps.getD 111 undef = _ := h111
                have f111 := getD_form e111
                clear h113 h114 h111
                refine ⟨false, 111, by rfl, e111, ?_⟩; rw [if_pos rfl]
                go_simp; exact left_intro rfl (Stp.refl _) trivial
              refine ⟨?_, ?_⟩
              · rintro L a1 w1 hT - - ⟨h115, h111, -⟩   -- 8: Op.load 9 t115
                have e115 : a1.tmps.getD 115 undef = _ := h115
                have f115 := getD_form e115
                have e111 : a1.tmps.getD 111 undef = _ := h111
                have f111 := getD_form e111
                clear h115 h111
                refine ⟨false, 111, by rfl, e111, ?_⟩; rw [if_pos rfl]
                have c115 := (Below.cell (p := ⟨gc, oc + j, none⟩) hT gc2).trans kc2
                go_simp; exact left_intro rfl (Stp.refl _) trivial
              refine ⟨?_, ?_⟩
              · rintro L a1 w1 hT - - ⟨h112, h116, h111, -⟩   -- 9: Op.binOp BinOp.neq 9 t112 t116 9
                have e112 : a1.tmps.getD 112 undef = _ := h112
                have f112 := getD_form e112
                have e116 : a1.tmps.getD 116 undef = _ := h116
                have f116 := getD_form e116
                have e111 : a1.tmps.getD 111 undef = _ := h111
                have f111 := getD_form e111
                clear h112 h116 h111
                refine ⟨false, 111, by rfl, e111, ?_⟩; rw [if_pos rfl]
                go_simp; exact left_intro rfl (Stp.refl _) trivial
              refine ⟨?_, ?_⟩
              · rintro L a1 w1 hT - - ⟨h111, h117, -⟩   -- 10: Op.pick t111 (const (Value.bool true)) t117
                have e111 : a1.tmps.getD 111 undef = _ := h111
                have f111 := getD_form e111
                have e117 : a1.tmps.getD 117 undef = _ := h117
                have f117 := getD_form e117
                clear h111 h117
                go_simp; exact left_intro rfl (Stp.refl _) trivial
              refine ⟨?_, ?_⟩
              · rintro L a1 w1 hT - - ⟨h118, -⟩   -- 11: Op.move t118
                have e118 : a1.tmps.getD 118 undef = _ := h118
                have f118 := getD_form e118
                clear h118
                go_simp; exact left_intro rfl (Stp.refl _) trivial
              refine ⟨?_, ?_⟩
              · rintro L a1 w1 hT - - ⟨h21, h119, -⟩   -- 12: Op.move t21
                have e21 : a1.tmps.getD 21 undef = _ := h21
                have f21 := getD_form e21
                have e119 : a1.tmps.getD 119 undef = _ := h119
                have f119 := getD_form e119
                clear h21 h119
                refine ⟨false, 119, by rfl, e119, ?_⟩; rw [if_pos rfl]
                go_simp; exact left_intro rfl (Stp.refl _) trivial
              refine ⟨?_, ?_⟩
              · rintro L a1 w1 hT - - ⟨h120, h119, -⟩   -- 13: Op.call { value (Operand.func 32), args := #[t120], argTypes := #[9] }
                have e120 : a1.tmps.getD 120 undef = _ := h120
                have f120 := getD_form e120
                have e119 : a1.tmps.getD 119 undef = _ := h119
                have f119 := getD_form e119
                clear h120 h119
                refine ⟨false, 119, by rfl, e119, ?_⟩; rw [if_pos rfl]
                go_simp; go_at_call 32; (with_reducible refine (SS.out _).mono ?_); rintro e w2 ⟨rfl, hb⟩; exact left_intro rfl (Stp.of hb) trivial
              refine ⟨?_, ?_⟩
              · rintro L a1 w1 hT - - ⟨h6, h119, -⟩   -- 14: Op.move t6
                have e6 : a1.tmps.getD 6 undef = _ := h6
                have f6 := getD_form e6
                have e119 : a1.tmps.getD 119 undef = _ := h119
                have f119 := getD_form e119
                clear h6 h119
                refine ⟨false, 119, by rfl, e119, ?_⟩; rw [if_pos rfl]
                go_simp; exact left_intro rfl (Stp.refl _) trivial
              refine ⟨?_, ?_⟩
              · rintro L a1 w1 hT - - ⟨h18, h119, -⟩   -- 15: Op.move t18
                have e18 : a1.tmps.getD 18 undef = _ := h18
                have f18 := getD_form e18
                have e119 : a1.tmps.getD 119 undef = _ := h119
                have f119 := getD_form e119
                clear h18 h119
                refine ⟨false, 119, by rfl, e119, ?_⟩; rw [if_pos rfl]
                go_simp; exact left_intro rfl (Stp.refl _) trivial
              refine ⟨?_, ?_⟩
              · rintro L a1 w1 hT - - ⟨h122, h123, h119, -⟩   -- 16: Op.indexAddr 44 t122 t123
                have e122 : a1.tmps.getD 122 undef = _ := h122
                have f122 := getD_form e122
                have e123 : a1.tmps.getD 123 undef = _ := h123
                have f123 := getD_form e123
                have e119 : a1.tmps.getD 119 undef = _ := h119
                have f119 := getD_form e119
                clear h122 h123 h119
                refine ⟨false, 119, by rfl, e119, ?_⟩; rw [if_pos rfl]
                go_simp; exact left_intro rfl (Stp.refl _) trivial
              refine ⟨?_, ?_⟩
              · rintro L a1 w1 hT - - ⟨h124, h119, -⟩   -- 17: Op.load 50 t124
                have e124 : a1.tmps.getD 124 undef = _ := h124
                have f124 := getD_form e124
                have e119 : a1.tmps.getD 119 undef = _ := h119
                have f119 := getD_form e119
                clear h124 h119
                refine ⟨false, 119, by rfl, e119, ?_⟩; rw [if_pos rfl]
                exact wp_load_labAt (.tmp 124) rfl e124 (range_below ka2 ga2 hT) ls (left_intro rfl (Stp.refl _) trivial)
              refine ⟨?_, ?_⟩
              · rintro L a1 w1 hT - - ⟨h121, h125, h119, -⟩   -- 18: Op.binOp BinOp.neq 50 t121 t125 50
                have e121 : a1.tmps.getD 121 undef = _ := h121
                have f121 := getD_form e121
                have e125 : a1.tmps.getD 125 undef = _ := h125
                have f125 := getD_form e125
                have e119 : a1.tmps.getD 119 undef = _ := h119
                have f119 := getD_form e119
                clear h121 h125 h119
                refine ⟨false, 119, by rfl, e119, ?_⟩; rw [if_pos rfl]
                exact wp_bin .neq 50 50 (.tmp 121) (.tmp 125) rfl _ _ e121 e125 guard_lab _ ((neq_lab _ _ (by assumption) (by assumption) _).trans (by rw [qs])) (left_intro rfl (Stp.refl _) trivial)
              refine ⟨?_, ?_⟩
              · rintro L a1 w1 hT - - ⟨h119, h126, -⟩   -- 19: Op.pick t119 (const (Value.bool true)) t126
                have e119 : a1.tmps.getD 119 undef = _ := h119
                have f119 := getD_form e119
                have e126 : a1.tmps.getD 126 undef = _ := h126
                have f126 := getD_form e126
                clear h119 h126
                go_simp; exact left_intro rfl (Stp.refl _) trivial
              refine ⟨?_, ?_⟩
              · rintro L a1 w1 hT - - ⟨h127, -⟩   -- 20: Op.move t127
                have e127 : a1.tmps.getD 127 undef = _ := h127
                have f127 := getD_form e127
                clear h127
                go_simp; exact left_intro rfl (Stp.refl _) trivial
              refine ⟨?_, ?_⟩
              · rintro L a1 w1 hT - - ⟨h1, h128, -⟩   -- 21: Op.move t1
                have e1 : a1.tmps.getD 1 undef = _ := h1
                have f1 := getD_form e1
                have e128 : a1.tmps.getD 128 undef = _ := h128
                have f128 := getD_form e128
                clear h1 h128
                refine ⟨false, 128, by rfl, e128, ?_⟩; rw [if_pos rfl]
                go_simp; exact left_intro rfl (Stp.refl _) trivial
              refine ⟨?_, ?_⟩
              · rintro L a1 w1 hT - - ⟨h21, h128, -⟩   -- 22: Op.move t21
                have e21 : a1.tmps.getD 21 undef = _ := h21
                have f21 := getD_form e21
                have e128 : a1.tmps.getD 128 undef = _ := h128
                have f128 := getD_form e128
                clear h21 h128
                refine ⟨false, 128, by rfl, e128, ?_⟩; rw [if_pos rfl]
                go_simp; exact left_intro rfl (Stp.refl _) trivial
              refine ⟨?_, ?_⟩
              · rintro L a1 w1 hT - - ⟨h129, h130, h128, -⟩   -- 23: Op.call { value (Operand.func 33), args := #[t129, t130], argTypes := #[9, 9] }
                have e129 : a1.tmps.getD 129 undef = _ := h129
                have f129 := getD_form e129
                have e130 : a1.tmps.getD 130 undef = _ := h130
                have f130 := getD_form e130
                have e128 : a1.tmps.getD 128 undef = _ := h128
                have f128 := getD_form e128
                clear h129 h130 h128
                refine ⟨false, 128, by rfl, e128, ?_⟩; rw [if_pos rfl]
                go_simp; go_at_call 33; (with_reducible refine (MM.out _).mono ?_); rintro e w2 ⟨rfl, hb⟩; exact left_intro rfl (Stp.of hb) trivial
              refine ⟨?_, ?_⟩
              · rintro L a1 w1 hT - - ⟨h7, h128, -⟩   -- 24: Op.move t7
                have e7 : a1.tmps.getD 7 undef = _ := h7
                have f7 := getD_form e7
                have e128 : a1.tmps.getD 128 undef = _ := h128
                have f128 := getD_form e128
                clear h7 h128
                refine ⟨false, 128, by rfl, e128, ?_⟩; rw [if_pos rfl]
                go_simp; exact left_intro rfl (Stp.refl _) trivial
              refine ⟨?_, ?_⟩
              · rintro L a1 w1 hT - - ⟨h18, h128, -⟩   -- 25: Op.move t18
                have e18 : a1.tmps.getD 18 undef = _ := h18
                have f18 := getD_form e18
                have e128 : a1.tmps.getD 128 undef = _ := h128
                have f128 := getD_form e128
                clear h18 h128
                refine ⟨false, 128, by rfl, e128, ?_⟩; rw [if_pos rfl]
                go_simp; exact left_intro rfl (Stp.refl _) trivial
              refine ⟨?_, ?_⟩
              · rintro L a1 w1 hT - - ⟨h132, h133, h128, -⟩   -- 26: Op.indexAddr 44 t132 t133
                have e132 : a1.tmps.getD 132 undef = _ := h132
                have f132 := getD_form e132
                have e133 : a1.tmps.getD 133 undef = _ := h133
                have f133 := getD_form e133
                have e128 : a1.tmps.getD 128 undef = _ := h128
                have f128 := getD_form e128
                clear h132 h133 h128
                refine ⟨false, 128, by rfl, e128, ?_⟩; rw [if_pos rfl]
                go_simp; exact left_intro rfl (Stp.refl _) trivial
              refine ⟨?_, ?_⟩
              · rintro L a1 w1 hT - - ⟨h134, h128, -⟩   -- 27: Op.load 50 t134
                have e134 : a1.tmps.getD 134 undef = _ := h134
                have f134 := getD_form e134
                have e128 : a1.tmps.getD 128 undef = _ := h128
                have f128 := getD_form e128
                clear h134 h128
                refine ⟨false, 128, by rfl, e128, ?_⟩; rw [if_pos rfl]
                exact wp_load_labAt (.tmp 134) rfl e134 (range_below kb2 gb2 hT) lm (left_intro rfl (Stp.refl _) trivial)
              refine ⟨?_, ?_⟩
              · rintro L a1 w1 hT - - ⟨h131, h135, h128, -⟩   -- 28: Op.binOp BinOp.neq 50 t131 t135 50
                have e131 : a1.tmps.getD 131 undef = _ := h131
                have f131 := getD_form e131
                have e135 : a1.tmps.getD 135 undef = _ := h135
                have f135 := getD_form e135
                have e128 : a1.tmps.getD 128 undef = _ := h128
                have f128 := getD_form e128
                clear h131 h135 h128
                refine ⟨false, 128, by rfl, e128, ?_⟩; rw [if_pos rfl]
                exact wp_bin .neq 50 50 (.tmp 131) (.tmp 135) rfl _ _ e131 e135 guard_lab _ ((neq_lab _ _ (by assumption) (by assumption) _).trans (by rw [qm])) (left_intro rfl (Stp.refl _) trivial)
              refine ⟨?_, ?_⟩
              · rintro L a1 w1 hT - - ⟨h128, h136, -⟩   -- 29: Op.pick t128 (const (Value.bool true)) t136
                have e128 : a1.tmps.getD 128 undef = _ := h128
                have f128 := getD_form e128
                have e136 : a1.tmps.getD 136 undef = _ := h136
                have f136 := getD_form e136
                clear h128 h136
                go_simp; exact left_intro rfl (Stp.refl _) trivial
              trivial
            case hmono => repeat (first | exact trivial | refine ⟨fun _ _ _ _ h => h, ?_⟩)
            case hend =>
              intro w2 hT
              rintro _ rfl _ rfl _ rfl _ rfl _ rfl _ rfl _ rfl _ rfl _ rfl _ rfl _ rfl _ rfl _ rfl _ rfl _ rfl _ rfl _ rfl _ rfl _ rfl _ rfl _ rfl _ rfl _ rfl _ rfl _ rfl _ rfl _ rfl _ rfl _ rfl _ rfl
              simp only [relEnd, Act.put, List.setIfInBounds_toArray, List.set_cons_succ, List.set_cons_zero]
              go_wp2
              go_roundw
              case rel => exact ⟨j + 1, by go_num, by omega, (hb.trans (hb4.mono hb.size)).trans (Below.mono hT (by have := hb4.size; omega))⟩
              case measure => simp [intOf]; omega
          · obtain rfl : j = k := by omega
            have d3 : decide ((j : Int) < (j : Int)) = false := by simp
            have d3' : decide (j < j) = false := by simp
            go_wp2
            go_ret
            exact ⟨rfl, hB.trans (hb.mono hB.size)⟩
      · have _t := trivial
        obtain ⟨Ac, cc, ec, hcc, hcell⟩ := hc.out
        rw [hlc] at ec hcc
        subst ec
        clear hc
        go_wp2_with (first | (go_at_call 27; (with_reducible refine (AA.out _).mono ?_); rintro e w1 ⟨v, rfl, hrl, hol, hb1⟩; obtain ⟨Al, cl, ev, hcl, hcelll⟩ := hrl.reads; rw [hlm] at ev hcl; subst ev) | (go_at_call 22; (with_reducible refine (SC.out _).mono ?_); rintro e w2 ⟨rfl, hb2⟩))
        have hb12 := hb1.trans (hb2.mono hb1.size)
        have ra := ra.at_ hb12
        have rb := rb.at_ hb12
        have hB := hB.trans (hb12.mono hB.size)
        have hC : Hid (∀ j t, U[j]? = some t → ∃ g o, Ac = some ⟨g, o, none⟩ ∧ g < w2.heap.size ∧ w2.cell? ⟨g, o + j, none⟩ = some (.string ⟨t.toArray⟩)) := Lib.hid fun j t hj => by
          have h1 := hcell.resolve_left (by intro e; rw [List.map_eq_nil_iff] at e; rw [e] at hj; simp at hj)
          obtain ⟨g, o, e, hg, hcl⟩ := h1
          exact ⟨g, o, e, Nat.lt_of_lt_of_le hg hb12.size, (hb12.cell (p := ⟨g, o + j, none⟩) hg).trans (hcl j _ (by rw [List.getElem?_map, hj]; rfl))⟩
        have hL : Hid (∀ j t, U[j]? = some t → ∃ g o, Al = some ⟨g, o, none⟩ ∧ g < w2.heap.size ∧ w2.cell? ⟨g, o + j, none⟩ = some (.string ⟨(D.textB t).toArray⟩)) := Lib.hid fun j t hj => by
          have h1 := hcelll.resolve_left (by intro e; rw [List.map_eq_nil_iff, List.map_eq_nil_iff] at e; rw [e] at hj; simp at hj)
          obtain ⟨g, o, e, hg, hcl⟩ := h1
          exact ⟨g, o, e, Nat.lt_of_lt_of_le hg hb2.size, (hb2.cell (p := ⟨g, o + j, none⟩) hg).trans (hcl j _ (by rw [List.getElem?_map, List.getElem?_map, hj]; rfl))⟩
        clear hb1 hb2 hcell hcelll hrl hol AA SC hb12
        go_loopw [99] (fun x wr => ∃ j : Nat, x = .int .i64 (j : Int) ∧ j ≤ k ∧ Below w2.heap.size w2 wr) (fun x _ => k - (intOf x).toNat)
        case atStart => exact ⟨0, rfl, Nat.zero_le _, Below.refl _ _⟩
        case round =>
          obtain ⟨j, rfl, hj, hb⟩ := hrel
          have j0 : (0 : Int) ≤ (j : Int) := by omega
          have j8 : (j : Int) ≤ 8 := by omega
          by_cases hjt : j < k
          · have d3 : decide ((j : Int) < (k : Int)) = true := by simp; omega
            have d3' : decide (j < k) = true := by simpa using hjt
            have jl : (j : Int) < (k : Int) := by omega
            obtain ⟨t, ht⟩ : ∃ t, U[j]? = some t := ⟨_, List.getElem?_eq_getElem (by have := Hul.out; omega)⟩
            have htl := Hle.out t (List.mem_of_getElem? ht)
            have htb := textB_le t htl
            obtain ⟨gc, oc, rfl, hgc, kc⟩ := hC.out j t ht
            obtain ⟨gl, ol, rfl, hgl, kl⟩ := hL.out j t ht
            have kl1 := (hb.cell (p := ⟨gl, ol + j, none⟩) hgl).trans kl
            obtain ⟨ga, ca, rfl, hca⟩ := ra.form.resolve_left (by intro e; have := congrArg List.length e.2; rw [List.length_map, Hul.out] at this; simp at this; omega)
            obtain ⟨gb, cb, rfl, hcb⟩ := rb.form.resolve_left (by intro e; have := congrArg List.length e.2; rw [List.length_map, Hul.out] at this; simp at this; omega)
            have ga_lt := ra.lt rfl
            have gb_lt := rb.lt rfl
            have ka := ra.range (fun y hy => by obtain ⟨z, _, rfl⟩ := List.mem_map.1 hy; exact S.sum_length z) rfl (j := j) (x := S.sum t) (by rw [List.getElem?_map, ht]; rfl)
            have kb := rb.range (fun y hy => by obtain ⟨z, _, rfl⟩ := List.mem_map.1 hy; exact S.mac_length key z) rfl (j := j) (x := S.mac key t) (by rw [List.getElem?_map, ht]; rfl)
            have hlU : (U.map S.sum).length = k := by rw [List.length_map, Hul.out]
            have hlV : (U.map (S.mac key)).length = k := by rw [List.length_map, Hul.out]
            have OP := Lib.hid (fun W => ropen_any (D.textB t) (by omega) W)
            have hnum := D.number_back [] t t.length (by omega)
            rw [List.nil_append, show ([] : List UInt8).length = 0 from rfl] at hnum
            have htxt := D.rtext_back t (by omega)
            rw [show D.numB t.length ++ t = D.textB t from rfl] at hnum htxt
            have RT := Lib.hid (fun g W (h : Rst W g (D.textB t) ⟨0, 0⟩) => rtext_any (D.textB t) (by omega) ⟨0, 0⟩ (by rw [hnum]) (by rw [hnum]; simp only; omega) g W h)
            rw [htxt] at RT
            have hdn := D.done_end (D.textB t)
            have RD := Lib.hid (fun g W (h : Rst W g (D.textB t) ⟨(D.textB t).length, 0⟩) => rdone_any (D.textB t) ⟨(D.textB t).length, 0⟩ g W h)
            rw [hdn, show ((0 : Nat) : Int) = 0 from rfl] at RD
            have SS := Lib.hid (fun W => sum_any t W (by omega))
            have MM := Lib.hid (fun W => mac_any key t W (by omega) (by omega))
            have ls := S.sum_length t
            have lm := S.mac_length key t
            rw [hlU, hlV] at *
            generalize S.sum t = sm at *
            generalize S.mac key t = mc at *
            have qs := beq_self_eq_true sm
            have qm := beq_self_eq_true mc
            generalize hTB : (⟨(D.textB t).toArray⟩ : ByteArray) = TB at *
            have HTB := Lib.hid hTB
            clear hTB hnum htxt hdn
            generalize (⟨t.toArray⟩ : ByteArray) = T at *
            have kc1 := (hb.cell (p := ⟨gc, oc + j, none⟩) hgc).trans kc
            have ka1 := range_below ka ga_lt hb
            have kb1 := range_below kb gb_lt hb
            have hz2 := hb.size
            have gc1 : gc < wr.heap.size := by omega
            have ga1 : ga < wr.heap.size := Nat.lt_of_lt_of_le ga_lt hb.size
            have gb1 : gb < wr.heap.size := Nat.lt_of_lt_of_le gb_lt hb.size
            go_wp2_with (first | (go_at_call 34; (with_reducible refine (OP.out _).mono ?_); rintro e w3 ⟨rfl, hr3, hb3, hz3⟩) | (go_at_call 35; (with_reducible refine (RT.out _ _ hr3).mono ?_); rintro e w4 ⟨rfl, hr4, hg4⟩))
            have hb4 : Below wr.heap.size wr w4 := below_grown hb3 hb3.size hg4 (fun x hx => by injection hx with hx; omega)
            have kc2 := (hb4.cell (p := ⟨gc, oc + j, none⟩) gc1).trans kc1
            have ka3 := range_below ka1 ga1 hb4
            have kb3 := range_below kb1 gb1 hb4
            have ka2 : w4.drew.rangeAt ga (j * 32) (sm.map byteV) := ka3
            have kb2 : w4.drew.rangeAt gb (j * 32) (mc.map byteV) := kb3
            have gc2 : gc < w4.drew.heap.size := Nat.lt_of_lt_of_le gc1 hb4.size
            have ga2 : ga < w4.drew.heap.size := Nat.lt_of_lt_of_le ga1 hb4.size
            have gb2 : gb < w4.drew.heap.size := Nat.lt_of_lt_of_le gb1 hb4.size
            have hr5 := hr4.drew
            clear ka kb ka1 kb1 kl kl1 kc kc1 OP RT hr3 hb3 hg4
            apply wp_region_rel_below [[(20, none)], [(108, some 0)], [(109, some 1)], [(110, some 2)], [(21, none), (111, some 3)], [(8, none), (111, some 3)], [(18, none), (111, some 3)], [(113, some 5), (114, some 6), (111, some 3)], [(115, some 7), (111, some 3)], [(112, some 4), (116, some 8), (111, some 3)], [(111, some 3), (117, some 9)], [(118, some 10)], [(21, none), (119, some 11)], [(120, some 12), (119, some 11)], [(6, none), (119, some 11)], [(18, none), (119, some 11)], [(122, some 14), (123, some 15), (119, some 11)], [(124, some 16), (119, some 11)], [(121, some 13), (125, some 17), (119, some 11)], [(119, some 11), (126, some 18)], [(127, some 19)], [(1, none), (128, some 20)], [(21, none), (128, some 20)], [(129, some 21), (130, some 22), (128, some 20)], [(7, none), (128, some 20)], [(18, none), (128, some 20)], [(132, some 24), (133, some 25), (128, some 20)], [(134, some 26), (128, some 20)], [(131, some 23), (135, some 27), (128, some 20)], [(128, some 20), (136, some 28)]] [eqv _, eqv _, eqv _, eqv _, eqv _, eqv _, eqv _, eqv _, eqv _, eqv _, eqv _, eqv _, eqv _, eqv _, eqv _, eqv _, eqv _, eqv _, eqv _, eqv _, eqv _, eqv _, eqv _, eqv _, eqv _, eqv _, eqv _, eqv _, eqv _, eqv _] (by kernel_rfl) (by kernel_rfl)
            case hobs =>
              refine ⟨?_, ?_⟩
              · rintro L a1 w1 hT - - ⟨h20, -⟩   -- 0: Op.move t20
                have e20 : a1.tmps.getD 20 undef = _ := h20
                have f20 := getD_form e20
                clear h20
                go_simp; exact left_intro rfl (Stp.refl _) trivial
              refine ⟨?_, ?_⟩
              · rintro L a1 w1 hT - - ⟨h108, -⟩   -- 1: Op.call { value (Operand.func 36), args := #[t108], argTypes := #[53] }
                have e108 : a1.tmps.getD 108 undef = _ := h108
                have f108 := getD_form e108
                clear h108
                have hr6 := Rst.below (w := w4.drew) hr5 hT
                go_simp; go_at_call 36; (with_reducible refine (RD.out _ _ hr6).mono ?_); rintro e w2 ⟨rfl, n, rfl⟩; exact left_intro rfl (Stp.of (below_refl_drewN _ n)) trivial
              refine ⟨?_, ?_⟩
              · rintro L a1 w1 hT - - ⟨h109, -⟩   -- 2: Op.binOp BinOp.neq 23 t109 (const (0:i64)) 23
                have e109 : a1.tmps.getD 109 undef = _ := h109
                have f109 := getD_form e109
                clear h109
                go_simp; exact left_intro rfl (Stp.refl _) trivial
              refine ⟨?_, ?_⟩
              · rintro L a1 w1 hT - - ⟨h110, -⟩   -- 3: Op.move t110
                have e110 : a1.tmps.getD 110 undef = _ := h110
                have f110 := getD_form e110
                clear h110
                go_simp; exact left_intro rfl (Stp.refl _) trivial
              refine ⟨?_, ?_⟩
              · rintro L a1 w1 hT - - ⟨h21, h111, -⟩   -- 4: Op.move t21
                have e21 : a1.tmps.getD 21 undef = _ := h21
                have f21 := getD_form e21
                have e111 : a1.tmps.getD 111 undef = _ := h111
                have f111 := getD_form e111
                clear h21 h111
                refine ⟨false, 111, by rfl, e111, ?_⟩; rw [if_pos rfl]
                go_simp; exact left_intro rfl (Stp.refl _) trivial
              refine ⟨?_, ?_⟩
              · rintro L a1 w1 hT - - ⟨h8, h111, -⟩   -- 5: Op.move t8
                have e8 : a1.tmps.getD 8 undef = _ := h8
                have f8 := getD_form e8
                have e111 : a1.tmps.getD 111 undef = _ := h111
                have f111 := getD_form e111
                clear h8 h111
                refine ⟨false, 111, by rfl, e111, ?_⟩; rw [if_pos rfl]
                go_simp; exact left_intro rfl (Stp.refl _) trivial
              refine ⟨?_, ?_⟩
              · rintro L a1 w1 hT - - ⟨h18, h111, -⟩   -- 6: Op.move t18
                have e18 : a1.tmps.getD 18 undef = _ := h18
                have f18 := getD_form e18
                have e111 : a1.tmps.getD 111 undef = _ := h111
                have f111 := getD_form e111
                clear h18 h111
                refine ⟨false, 111, by rfl, e111, ?_⟩; rw [if_pos rfl]
                go_simp; exact left_intro rfl (Stp.refl _) trivial
              refine ⟨?_, ?_⟩
              · rintro L a1 w1 hT - - ⟨h113, h114, h111, -⟩   -- 7: Op.indexAddr 35 t113 t114
                have e113 : a1.tmps.getD 113 undef = _ := h113
                have f113 := getD_form e113
                have e114 : a1.tmps.getD 114 undef = _ := h114
                have f114 := getD_form e114
                have e111 : a1.tmps.getD 111 undef = _ := h111
                have f111 := getD_form e111
                clear h113 h114 h111
                refine ⟨false, 111, by rfl, e111, ?_⟩; rw [if_pos rfl]
                go_simp; exact left_intro rfl (Stp.refl _) trivial
              refine ⟨?_, ?_⟩
              · rintro L a1 w1 hT - - ⟨h115, h111, -⟩   -- 8: Op.load 9 t115
                have e115 : a1.tmps.getD 115 undef = _ := h115
                have f115 := getD_form e115
                have e111 : a1.tmps.getD 111 undef = _ := h111
                have f111 := getD_form e111
                clear h115 h111
                refine ⟨false, 111, by rfl, e111, ?_⟩; rw [if_pos rfl]
                have c115 := (Below.cell (p := ⟨gc, oc + j, none⟩) hT gc2).trans kc2
                go_simp; exact left_intro rfl (Stp.refl _) trivial
              refine ⟨?_, ?_⟩
              · rintro L a1 w1 hT - - ⟨h112, h116, h111, -⟩   -- 9: Op.binOp BinOp.neq 9 t112 t116 9
                have e112 : a1.tmps.getD 112 undef = _ := h112
                have f112 := getD_form e112
                have e116 : a1.tmps.getD 116 undef = _ := h116
                have f116 := getD_form e116
                have e111 : a1.tmps.getD 111 undef = _ := h111
                have f111 := getD_form e111
                clear h112 h116 h111
                refine ⟨false, 111, by rfl, e111, ?_⟩; rw [if_pos rfl]
                go_simp; exact left_intro rfl (Stp.refl _) trivial
              refine ⟨?_, ?_⟩
              · rintro L a1 w1 hT - - ⟨h111, h117, -⟩   -- 10: Op.pick t111 (const (Value.bool true)) t117
                have e111 : a1.tmps.getD 111 undef = _ := h111
                have f111 := getD_form e111
                have e117 : a1.tmps.getD 117 undef = _ := h117
                have f117 := getD_form e117
                clear h111 h117
                go_simp; exact left_intro rfl (Stp.refl _) trivial
              refine ⟨?_, ?_⟩
              · rintro L a1 w1 hT - - ⟨h118, -⟩   -- 11: Op.move t118
                have e118 : a1.tmps.getD 118 undef = _ := h118
                have f118 := getD_form e118
                clear h118
                go_simp; exact left_intro rfl (Stp.refl _) trivial
              refine ⟨?_, ?_⟩
              · rintro L a1 w1 hT - - ⟨h21, h119, -⟩   -- 12: Op.move t21
                have e21 : a1.tmps.getD 21 undef = _ := h21
                have f21 := getD_form e21
                have e119 : a1.tmps.getD 119 undef = _ := h119
                have f119 := getD_form e119
                clear h21 h119
                refine ⟨false, 119, by rfl, e119, ?_⟩; rw [if_pos rfl]
                go_simp; exact left_intro rfl (Stp.refl _) trivial
              refine ⟨?_, ?_⟩
              · rintro L a1 w1 hT - - ⟨h120, h119, -⟩   -- 13: Op.call { value (Operand.func 32), args := #[t120], argTypes := #[9] }
                have e120 : a1.tmps.getD 120 undef = _ := h120
                have f120 := getD_form e120
                have e119 : a1.tmps.getD 119 undef = _ := h119
                have f119 := getD_form e119
                clear h120 h119
                refine ⟨false, 119, by rfl, e119, ?_⟩; rw [if_pos rfl]
                go_simp; go_at_call 32; (with_reducible refine (SS.out _).mono ?_); rintro e w2 ⟨rfl, hb⟩; exact left_intro rfl (Stp.of hb) trivial
              refine ⟨?_, ?_⟩
              · rintro L a1 w1 hT - - ⟨h6, h119, -⟩   -- 14: Op.move t6
                have e6 : a1.tmps.getD 6 undef = _ := h6
                have f6 := getD_form e6
                have e119 : a1.tmps.getD 119 undef = _ := h119
                have f119 := getD_form e119
                clear h6 h119
                refine ⟨false, 119, by rfl, e119, ?_⟩; rw [if_pos rfl]
                go_simp; exact left_intro rfl (Stp.refl _) trivial
              refine ⟨?_, ?_⟩
              · rintro L a1 w1 hT - - ⟨h18, h119, -⟩   -- 15: Op.move t18
                have e18 : a1.tmps.getD 18 undef = _ := h18
                have f18 := getD_form e18
                have e119 : a1.tmps.getD 119 undef = _ := h119
                have f119 := getD_form e119
                clear h18 h119
                refine ⟨false, 119, by rfl, e119, ?_⟩; rw [if_pos rfl]
                go_simp; exact left_intro rfl (Stp.refl _) trivial
              refine ⟨?_, ?_⟩
              · rintro L a1 w1 hT - - ⟨h122, h123, h119, -⟩   -- 16: Op.indexAddr 44 t122 t123
                have e122 : a1.tmps.getD 122 undef = _ := h122
                have f122 := getD_form e122
                have e123 : a1.tmps.getD 123 undef = _ := h123
                have f123 := getD_form e123
                have e119 : a1.tmps.getD 119 undef = _ := h119
                have f119 := getD_form e119
                clear h122 h123 h119
                refine ⟨false, 119, by rfl, e119, ?_⟩; rw [if_pos rfl]
                go_simp; exact left_intro rfl (Stp.refl _) trivial
              refine ⟨?_, ?_⟩
              · rintro L a1 w1 hT - - ⟨h124, h119, -⟩   -- 17: Op.load 50 t124
                have e124 : a1.tmps.getD 124 undef = _ := h124
                have f124 := getD_form e124
                have e119 : a1.tmps.getD 119 undef = _ := h119
                have f119 := getD_form e119
                clear h124 h119
                refine ⟨false, 119, by rfl, e119, ?_⟩; rw [if_pos rfl]
                exact wp_load_labAt (.tmp 124) rfl e124 (range_below ka2 ga2 hT) ls (left_intro rfl (Stp.refl _) trivial)
              refine ⟨?_, ?_⟩
              · rintro L a1 w1 hT - - ⟨h121, h125, h119, -⟩   -- 18: Op.binOp BinOp.neq 50 t121 t125 50
                have e121 : a1.tmps.getD 121 undef = _ := h121
                have f121 := getD_form e121
                have e125 : a1.tmps.getD 125 undef = _ := h125
                have f125 := getD_form e125
                have e119 : a1.tmps.getD 119 undef = _ := h119
                have f119 := getD_form e119
                clear h121 h125 h119
                refine ⟨false, 119, by rfl, e119, ?_⟩; rw [if_pos rfl]
                exact wp_bin .neq 50 50 (.tmp 121) (.tmp 125) rfl _ _ e121 e125 guard_lab _ ((neq_lab _ _ (by assumption) (by assumption) _).trans (by rw [qs])) (left_intro rfl (Stp.refl _) trivial)
              refine ⟨?_, ?_⟩
              · rintro L a1 w1 hT - - ⟨h119, h126, -⟩   -- 19: Op.pick t119 (const (Value.bool true)) t126
                have e119 : a1.tmps.getD 119 undef = _ := h119
                have f119 := getD_form e119
                have e126 : a1.tmps.getD 126 undef = _ := h126
                have f126 := getD_form e126
                clear h119 h126
                go_simp; exact left_intro rfl (Stp.refl _) trivial
              refine ⟨?_, ?_⟩
              · rintro L a1 w1 hT - - ⟨h127, -⟩   -- 20: Op.move t127
                have e127 : a1.tmps.getD 127 undef = _ := h127
                have f127 := getD_form e127
                clear h127
                go_simp; exact left_intro rfl (Stp.refl _) trivial
              refine ⟨?_, ?_⟩
              · rintro L a1 w1 hT - - ⟨h1, h128, -⟩   -- 21: Op.move t1
                have e1 : a1.tmps.getD 1 undef = _ := h1
                have f1 := getD_form e1
                have e128 : a1.tmps.getD 128 undef = _ := h128
                have f128 := getD_form e128
                clear h1 h128
                refine ⟨false, 128, by rfl, e128, ?_⟩; rw [if_pos rfl]
                go_simp; exact left_intro rfl (Stp.refl _) trivial
              refine ⟨?_, ?_⟩
              · rintro L a1 w1 hT - - ⟨h21, h128, -⟩   -- 22: Op.move t21
                have e21 : a1.tmps.getD 21 undef = _ := h21
                have f21 := getD_form e21
                have e128 : a1.tmps.getD 128 undef = _ := h128
                have f128 := getD_form e128
                clear h21 h128
                refine ⟨false, 128, by rfl, e128, ?_⟩; rw [if_pos rfl]
                go_simp; exact left_intro rfl (Stp.refl _) trivial
              refine ⟨?_, ?_⟩
              · rintro L a1 w1 hT - - ⟨h129, h130, h128, -⟩   -- 23: Op.call { value (Operand.func 33), args := #[t129, t130], argTypes := #[9, 9] }
                have e129 : a1.tmps.getD 129 undef = _ := h129
                have f129 := getD_form e129
                have e130 : a1.tmps.getD 130 undef = _ := h130
                have f130 := getD_form e130
                have e128 : a1.tmps.getD 128 undef = _ := h128
                have f128 := getD_form e128
                clear h129 h130 h128
                refine ⟨false, 128, by rfl, e128, ?_⟩; rw [if_pos rfl]
                go_simp; go_at_call 33; (with_reducible refine (MM.out _).mono ?_); rintro e w2 ⟨rfl, hb⟩; exact left_intro rfl (Stp.of hb) trivial
              refine ⟨?_, ?_⟩
              · rintro L a1 w1 hT - - ⟨h7, h128, -⟩   -- 24: Op.move t7
                have e7 : a1.tmps.getD 7 undef = _ := h7
                have f7 := getD_form e7
                have e128 : a1.tmps.getD 128 undef = _ := h128
                have f128 := getD_form e128
                clear h7 h128
                refine ⟨false, 128, by rfl, e128, ?_⟩; rw [if_pos rfl]
                go_simp; exact left_intro rfl (Stp.refl _) trivial
              refine ⟨?_, ?_⟩
              · rintro L a1 w1 hT - - ⟨h18, h128, -⟩   -- 25: Op.move t18
                have e18 : a1.tmps.getD 18 undef = _ := h18
                have f18 := getD_form e18
                have e128 : a1.tmps.getD 128 undef = _ := h128
                have f128 := getD_form e128
                clear h18 h128
                refine ⟨false, 128, by rfl, e128, ?_⟩; rw [if_pos rfl]
                go_simp; exact left_intro rfl (Stp.refl _) trivial
              refine ⟨?_, ?_⟩
              · rintro L a1 w1 hT - - ⟨h132, h133, h128, -⟩   -- 26: Op.indexAddr 44 t132 t133
                have e132 : a1.tmps.getD 132 undef = _ := h132
                have f132 := getD_form e132
                have e133 : a1.tmps.getD 133 undef = _ := h133
                have f133 := getD_form e133
                have e128 : a1.tmps.getD 128 undef = _ := h128
                have f128 := getD_form e128
                clear h132 h133 h128
                refine ⟨false, 128, by rfl, e128, ?_⟩; rw [if_pos rfl]
                go_simp; exact left_intro rfl (Stp.refl _) trivial
              refine ⟨?_, ?_⟩
              · rintro L a1 w1 hT - - ⟨h134, h128, -⟩   -- 27: Op.load 50 t134
                have e134 : a1.tmps.getD 134 undef = _ := h134
                have f134 := getD_form e134
                have e128 : a1.tmps.getD 128 undef = _ := h128
                have f128 := getD_form e128
                clear h134 h128
                refine ⟨false, 128, by rfl, e128, ?_⟩; rw [if_pos rfl]
                exact wp_load_labAt (.tmp 134) rfl e134 (range_below kb2 gb2 hT) lm (left_intro rfl (Stp.refl _) trivial)
              refine ⟨?_, ?_⟩
              · rintro L a1 w1 hT - - ⟨h131, h135, h128, -⟩   -- 28: Op.binOp BinOp.neq 50 t131 t135 50
                have e131 : a1.tmps.getD 131 undef = _ := h131
                have f131 := getD_form e131
                have e135 : a1.tmps.getD 135 undef = _ := h135
                have f135 := getD_form e135
                have e128 : a1.tmps.getD 128 undef = _ := h128
                have f128 := getD_form e128
                clear h131 h135 h128
                refine ⟨false, 128, by rfl, e128, ?_⟩; rw [if_pos rfl]
                exact wp_bin .neq 50 50 (.tmp 131) (.tmp 135) rfl _ _ e131 e135 guard_lab _ ((neq_lab _ _ (by assumption) (by assumption) _).trans (by rw [qm])) (left_intro rfl (Stp.refl _) trivial)
              refine ⟨?_, ?_⟩
              · rintro L a1 w1 hT - - ⟨h128, h136, -⟩   -- 29: Op.pick t128 (const (Value.bool true)) t136
                have e128 : a1.tmps.getD 128 undef = _ := h128
                have f128 := getD_form e128
                have e136 : a1.tmps.getD 136 undef = _ := h136
                have f136 := getD_form e136
                clear h128 h136
                go_simp; exact left_intro rfl (Stp.refl _) trivial
              trivial
            case hmono => repeat (first | exact trivial | refine ⟨fun _ _ _ _ h => h, ?_⟩)
            case hend =>
              intro w2 hT
              rintro _ rfl _ rfl _ rfl _ rfl _ rfl _ rfl _ rfl _ rfl _ rfl _ rfl _ rfl _ rfl _ rfl _ rfl _ rfl _ rfl _ rfl _ rfl _ rfl _ rfl _ rfl _ rfl _ rfl _ rfl _ rfl _ rfl _ rfl _ rfl _ rfl _ rfl
              simp only [relEnd, Act.put, List.setIfInBounds_toArray, List.set_cons_succ, List.set_cons_zero]
              go_wp2
              go_roundw
              case rel => exact ⟨j + 1, by go_num, by omega, (hb.trans (hb4.mono hb.size)).trans (Below.mono hT (by have := hb4.size; omega))⟩
              case measure => simp [intOf]; omega
          · obtain rfl : j = k := by omega
            have d3 : decide ((j : Int) < (j : Int)) = false := by simp
            have d3' : decide (j < j) = false := by simp
            go_wp2
            go_ret
            exact ⟨rfl, hB.trans (hb.mono hB.size)⟩
end Go.Proofs.Ytknkbioalohofaa
