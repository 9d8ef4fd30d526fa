/- SealCuts: of frames that are cut off just the whole ones are found. No condition. -/
import Derived.Test.YtknkbioalohofaaSealAwake
import Derived.Test.YtknkbioalohofaaPureCuts
import Derived.Test.YtknkbioalohofaaOpenT
namespace Go.Proofs.Ytknkbioalohofaa
open Go.ChangeShapes Go.WideShapes Go.ChangeAt Go.RowKit

/-- The texts of the first k, cut. -/
def cutsOf (ts : List (List UInt8)) (k : Nat) : List (List UInt8) := (ts.take k).map (·.take 200)
theorem cutsOf_succ (ts : List (List UInt8)) (k : Nat) (h : k < ts.length) : cutsOf ts (k + 1) = cutsOf ts k ++ [ts[k].take 200] := by
  unfold cutsOf; rw [List.take_succ_eq_append_getElem h, List.map_append]; rfl
theorem cutsOf_len (ts : List (List UInt8)) (k : Nat) (h : k ≤ ts.length) : (cutsOf ts k).length = k := by unfold cutsOf; simp; omega
theorem cutsOf_le (ts : List (List UInt8)) (k : Nat) : ∀ t ∈ cutsOf ts k, t.length ≤ 200 := by
  intro t ht
  obtain ⟨x, _, rfl⟩ := List.mem_map.1 ht
  rw [List.length_take]; omega
theorem frames_le : ∀ (ts : List (List UInt8)), (∀ t ∈ ts, t.length ≤ 200) → (C.frames ts).length ≤ 208 * ts.length
  | [], _ => by simp [C.frames]
  | t :: ts, h => by
    have := frames_le ts fun x hx => h x (List.mem_cons_of_mem _ hx)
    have := h t (List.mem_cons_self ..)
    rw [C.frames_cons, List.length_append, C.wrap_length, List.length_cons]; omega
set_option maxRecDepth 100000 in
set_option maxHeartbeats 4000000 in
theorem cuts_walk (ts : List (List UInt8)) (vt : Value) (cut : Int) (w : World) (hts : SRead w vt (ts.map strV)) :
    Calls Try.prog 5 #[vt, .int .i64 cut] w fun e w' => e = .returned (.bool true) ∧ Below w.heap.size w w' := by
  obtain ⟨A, cT, rfl, hc1, h3⟩ := hts
  rw [List.length_map] at hc1 ⊢
  have hr0 := Row1.build w 3 [intV 0] #[.int .i64 0] 1 rfl rfl (by omega)
  have hr1 := Row1.build (w.alloc (.cells #[.int .i64 0] 3)) 9 [] #[] 0 rfl rfl (by omega)
  have hr0' := hr0.alloc (.cells #[] 9)
  simp only [World.size_alloc] at hr1
  have hB0 := (below_alloc1 w (.cells #[.int .i64 0] 3)).alloc (by simp) (.cells #[] 9)
  have h0 : ∀ (s : List UInt8) (w : World), Calls Try.prog 19 #[.string ⟨s.toArray⟩, .int .i64 200] w fun e w' => e = .returned (.string ⟨(s.take 200).toArray⟩) ∧ w = w' := fun s w => lcut_any s 200 w
  have H0 := Lib.hid h0
  clear h0
  go_enter Try.func5, Try.ntmps5
  go_wp2
  go_loopw [5, 6, 7, 8] (fun s e l i wr => ∃ k : Nat, k ≤ ts.length ∧ k ≤ 10 ∧ i = .int .i64 (k : Int) ∧ s = .string ⟨(C.frames (cutsOf ts k)).toArray⟩ ∧ Row1 wr 3 e ((C.endsL (cutsOf ts k)).map intV) ∧ Row1 wr 9 l ((cutsOf ts k).map strV) ∧ (e.ownBlock = none ∨ ∃ k, w.heap.size ≤ k ∧ e.ownBlock = some k) ∧ (l.ownBlock = none ∨ ∃ k, w.heap.size ≤ k ∧ l.ownBlock = some k) ∧ Below w.heap.size w wr) (fun _ _ _ i _ => 10 - (intOf i).toNat)
  case atStart => exact ⟨0, Nat.zero_le _, Nat.zero_le _, rfl, by simp [cutsOf, C.frames], hr0', hr1, .inr ⟨_, Nat.le_refl _, rfl⟩, .inr ⟨_, by simp, rfl⟩, hB0⟩
  case round =>
    obtain ⟨k, hk1, hk2, rfl, rfl, hre, hrl, hoe, hol, hB⟩ := hrel
    clear hr0 hr1 hr0' hB0
    by_cases hlt : k < ts.length ∧ k < 10
    · obtain ⟨hlt1, hlt2⟩ := hlt
      have d1 : decide ((k : Int) < (ts.length : Int)) = true := by simp; omega
      have d2 : decide ((k : Int) < 10) = true := by simp; omega
      have h3' := h3.resolve_left (by intro e; have e2 := congrArg List.length e; rw [List.length_map] at e2; simp at e2; rw [e2] at hlt1; simp at hlt1)
      obtain ⟨g1, o1, rfl, hg1, hcell1⟩ := h3'
      have e1 := hcell1 k (strV ts[k]) (by simp [hlt1])
      have e1' := (hB.cell (p := ⟨g1, o1 + k, none⟩) hg1).trans e1
      have i0 : (0 : Int) ≤ (k : Int) := by omega
      have i1 : (k : Int) < (ts.length : Int) := by omega
      have Hs := Lib.hid (cutsOf_succ ts k hlt1)
      have hul := cutsOf_len ts k hk1
      have hfl := frames_le (cutsOf ts k) (cutsOf_le ts k)
      rw [hul] at hfl
      have htl : (ts[k].take 200).length ≤ 200 := by rw [List.length_take]; omega
      have H0' := Lib.hid (H0.out ts[k])
      unfold strV at e1'
      clear e1 hcell1 h3
      generalize ts[k].take 200 = t at *
      generalize ts[k] = tk at *
      have H1 := Lib.hid (wrap_any t (by omega))
      have hadd := str_add (C.frames (cutsOf ts k)) (C.wrap t) (by rw [C.wrap_length]; omega)
      have hfr : C.frames (cutsOf ts k) ++ C.wrap t = C.frames (cutsOf ts (k + 1)) := by rw [Hs.out, C.frames_append]; simp [C.frames]
      rw [hfr] at hadd
      have dne : (((C.wrap t).length : Int) != (t.length : Int) + 8) = false := by rw [C.wrap_length]; simp
      have hl1 : (((cutsOf ts k).map strV).length + 1) * 16 ≤ 140737488355328 := by rw [List.length_map, hul]; omega
      have hl2 : (((C.endsL (cutsOf ts k)).map intV).length + 1) * 8 ≤ 140737488355328 := by rw [List.length_map, C.endsL_length, hul]; omega
      have Hem : Hid ((cutsOf ts k).map strV ++ [strV t] = (cutsOf ts (k + 1)).map strV) := Lib.hid (by rw [Hs.out]; simp)
      have Hee : Hid ((C.endsL (cutsOf ts k)).map intV ++ [intV (C.frames (cutsOf ts (k + 1))).length] = (C.endsL (cutsOf ts (k + 1))).map intV) := Lib.hid (by rw [Hs.out, C.endsL_snoc, List.map_append]; rfl)
      clear hfr hul hfl
      generalize hF2 : C.frames (cutsOf ts (k + 1)) = F2 at *
      have HF2 := Lib.hid hF2
      clear hF2
      generalize C.frames (cutsOf ts k) = F1 at *
      generalize C.wrap t = W1 at *
      go_wp2_with (first | (go_at_call 19; with_reducible refine (H0'.out _).mono ?_; rintro e w1 ⟨rfl, rfl⟩) | (go_at_call 20; with_reducible refine (H1.out _).mono ?_; rintro e w1 ⟨rfl, hb1⟩; replace hB := hB.trans (hb1.mono hB.size); replace hre := hre.at_ hb1; replace hrl := hrl.at_ hb1) | (at_builtin; refine wpList_append_row rfl info_str (.tmp 50) (.tmp 52) 35 rfl Try.underlying35 rfl (hrl.alloc _) ⟨w1.heap.size, 0, none⟩ 1 1 [strV t] rfl rfl (new_cells _ _ _ rfl _) (str_one [t]) hl1 ?_; intro v1 w2 hrow2 hg2 hr2; have hre2 := (hre.alloc (.cells #[strV t] 9)).grown hg2 (hre.ne_ hrl (by decide))) | (at_builtin; refine wpList_append_row rfl info_int (.tmp 54) (.tmp 57) 39 rfl Try.underlying39 rfl (hre2.alloc _) ⟨w2.heap.size, 0, none⟩ 1 1 [intV F2.length] rfl rfl (new_cells _ _ _ rfl _) (int_one [F2.length]) hl2 ?_; intro v3 w3 hrow3 hg3 hr3))
      have hrow2' := (hrow2.alloc (.cells #[intV F2.length] 3)).grown hg3 (hrow2.ne_ hre2 (by decide))
      have hB1 := hB.alloc hB.size (.cells #[strV t] 9)
      have hs1 : w.heap.size ≤ (w1.alloc (.cells #[strV t] 9)).heap.size := by have := hB.size; simp; omega
      have hB2 := below_grown_own hB1 hs1 hg2 hol
      have hB3 := hB2.alloc hB2.size (.cells #[intV F2.length] 3)
      have hs2 : w.heap.size ≤ (w2.alloc (.cells #[intV F2.length] 3)).heap.size := by have := hB2.size; simp; omega
      have hB4 := below_grown_own hB3 hs2 hg3 hoe
      have hol2 := own_later hol hs1 hr2
      have hoe2 := own_later hoe hs2 hr3
      refine ⟨⟨k + 1, by omega, by omega, by go_num, by rw [HF2.out], ?_, ?_, hoe2, hol2, hB4⟩, by simp [intOf]; omega⟩
      · rw [← Hee.out]; exact hrow3
      · rw [← Hem.out]; exact hrow2'
    · have hul := cutsOf_len ts k hk1
      have hle := cutsOf_le ts k
      have hfl := frames_le (cutsOf ts k) hle
      rw [hul] at hfl
      have hcase : (decide (k < ts.length) = false ∧ True) ∨ (decide (k < ts.length) = true ∧ decide ((k : Int) < 10) = false) := by
        by_cases hk : k < ts.length
        · exact .inr ⟨by simp; omega, by simp; omega⟩
        · exact .inl ⟨by simp; omega, trivial⟩
      have Hall := Lib.hid (C.all_cut (cutsOf ts k) (fun t ht => Nat.le_trans (hle t ht) (by omega)))
      have Heg := Lib.hid (C.endsL_get (cutsOf ts k))
      have hel : ((C.endsL (cutsOf ts k)).map intV).length = k + 1 := by rw [List.length_map, C.endsL_length, hul]
      have hll : ((cutsOf ts k).map strV).length = k := by rw [List.length_map, hul]
      have Hf0 := Lib.hid (C.fl_zero (cutsOf ts k))
      have hfa := C.fl_all (cutsOf ts k)
      rw [hul] at hfa
      have Hfa := Lib.hid hfa
      have Hsz := Lib.hid (str_size (C.frames (cutsOf ts k)))
      have Hup := Lib.hid (str_upto_ (C.frames (cutsOf ts k)))
      have Hul := Lib.hid hul
      clear hul hle hfa hlt h3
      generalize cutsOf ts k = us at *
      generalize hF : C.frames us = F at *
      have HF := Lib.hid hF
      clear hF
      have hFl : (F.length : Int) ≤ 2080 := by omega
      have hH : ∀ c : Nat, c ≤ F.length → Hid ((∀ w, (Instr.slice 9 (.string ⟨F.toArray⟩) none (some (.int .i64 (c : Int))) none).run Try.prog w = .ok (.string ⟨(F.take c).toArray⟩) w) ∧ (F.take c).length ≤ 35184372088832) := fun c hc => Lib.hid ⟨Hup.out c c rfl hc, by rw [List.length_take]; omega⟩
      have HH := Lib.hid hH
      clear hH
      obtain ⟨Al, cl, e7, hcl, hl3⟩ := hrl.reads
      rw [hll] at e7 hcl
      subst e7
      obtain ⟨ge, ce, rfl, hce⟩ := hre.form_len hel (by omega)
      generalize hS : (⟨F.toArray⟩ : ByteArray) = S at *
      clear hS HF Hup hll
      have hFle : F.length ≤ 2080 := by omega
      have Hkf := Lib.hid (And.intro hfl hFle)
      clear hfl hFle
      by_cases hc0 : cut < 0
      · have dA : decide (cut < 0) = true := by simpa using hc0
        obtain ⟨c, hc⟩ : ∃ c, c = F.length := ⟨_, rfl⟩
        have hSc : (S.size : Int) = (c : Int) := by rw [Hsz.out, hc]
        have hcl2 : c ≤ F.length := by omega
        have Hc := Lib.hid (show (∀ m, m ≤ k → True) ∧ c ≤ F.length by exact ⟨fun _ _ => trivial, hcl2⟩)
        have hc3 : (c : Int) ≤ 2080 := by omega
        clear hc hc0 hFl
        rcases hcase with ⟨d1, d2⟩ | ⟨d1, d2⟩
        all_goals
          obtain ⟨hcut, hlt⟩ := (HH.out (c) hcl2).out
          have hall1 := all_any (F.take (c)) hlt
          generalize hA : C.all (F.take (c)) = A at hall1
          have HA := Lib.hid hA
          clear hA hlt
          obtain ⟨ats, an⟩ := A
          simp only at hall1
          have H3 := Lib.hid hall1
          clear hall1
          go_wp2_with (go_at_call 27; with_reducible refine (H3.out _).mono ?_; rintro e w1 ⟨va, rfl, hra, hoa, hba⟩; replace hre := hre.at_ hba; replace hrl := hrl.at_ hba; replace hB := hB.trans (hba.mono hB.size))
          go_loop [14] (fun j => ∃ m : Nat, m ≤ k ∧ j = .int .i64 (m : Int) ∧ C.fl us m ≤ c) (fun j => k - (intOf j).toNat)
          case atStart => exact ⟨0, Nat.zero_le _, rfl, by rw [Hf0.out]; omega⟩
          case round =>
            obtain ⟨m, hm, rfl, hfm⟩ := hrel
            have hcm := hre.cell rfl m (intV (C.fl us m)) (by rw [List.getElem?_map, Heg.out m (by rw [Hul.out]; exact hm)]; rfl)
            unfold intV at hcm
            by_cases hmk : m < k
            · have hcm1 := hre.cell rfl (m + 1) (intV (C.fl us (m + 1))) (by rw [List.getElem?_map, Heg.out (m + 1) (by rw [Hul.out]; exact hmk)]; rfl)
              unfold intV at hcm1
              have Hfin := Lib.hid (fun h1 h2 => Hall.out (c) m (by rw [Hul.out]; exact hm) h1 h2)
              generalize C.fl us m = f0 at *
              generalize hf1 : C.fl us (m + 1) = f1 at *
              have Hf1 := Lib.hid hf1
              clear hf1
              by_cases hle : f1 ≤ c
              · go_wp2
                exact ⟨⟨m + 1, by omega, by go_num, by rw [Hf1.out]; exact hle⟩, by simp [intOf]; omega⟩
              · have hp := HA.out.symm.trans (Hfin.out hfm (fun _ => by omega))
                have hp1 : ats = us.take m := congrArg Prod.fst hp
                have hp2 : an = f0 := congrArg Prod.snd hp
                clear hp
                subst hp1 hp2
                have hmul : m ≤ (us.map strV).length := by rw [List.length_map, Hul.out]; exact hm
                have htk := SRead.take (by rw [List.length_map, Hul.out]; exact hrl.reads) hmul
                rw [← List.map_take] at htk
                have hgl := hre.lt (g := ge) rfl
                have hmi : (m : Int) ≤ (cl : Int) := by omega
                have hm0 : (0 : Int) ≤ (m : Int) := by omega
                have htl : (us.take m).length ≤ 4611686018427387904 := by rw [List.length_take, Hul.out]; omega
                go_wp2_with (first | (go_at_call 21; with_reducible refine (awake_any _).mono ?_; rintro e w2 ⟨rfl, hb2⟩; have hcm2 := (hb2.cell (p := ⟨ge, m, none⟩) hgl).trans hcm; replace htk := htk.at_ hb2; replace hra := hra.at_ hb2; replace hB := hB.trans (hb2.mono hB.size)) | (go_at_call 29; with_reducible refine (rsame_any _ _ _ _ _ hra.reads htk htl).mono ?_; rintro e w3 ⟨rfl, nd, rfl⟩; replace hB := below_drewN hB nd))
                go_ret
                exact ⟨by first | rfl | simp, hB⟩
            · obtain rfl : m = k := by omega
              have hp := HA.out.symm.trans (Hall.out (c) m (by rw [Hul.out]; exact hm) hfm (fun h => by rw [Hul.out] at h; omega))
              generalize C.fl us m = f0 at *
              have hp1 : ats = us.take m := congrArg Prod.fst hp
              have hp2 : an = f0 := congrArg Prod.snd hp
              clear hp
              subst hp1 hp2
              have hmul : m ≤ (us.map strV).length := by rw [List.length_map, Hul.out]; exact hm
              have htk := SRead.take (by rw [List.length_map, Hul.out]; exact hrl.reads) hmul
              rw [← List.map_take] at htk
              have hgl := hre.lt (g := ge) rfl
              have hmi : (m : Int) ≤ (cl : Int) := by omega
              have hm0 : (0 : Int) ≤ (m : Int) := by omega
              have htl : (us.take m).length ≤ 4611686018427387904 := by rw [List.length_take, Hul.out]; omega
              go_wp2_with (first | (go_at_call 21; with_reducible refine (awake_any _).mono ?_; rintro e w2 ⟨rfl, hb2⟩; have hcm2 := (hb2.cell (p := ⟨ge, m, none⟩) hgl).trans hcm; replace htk := htk.at_ hb2; replace hra := hra.at_ hb2; replace hB := hB.trans (hb2.mono hB.size)) | (go_at_call 29; with_reducible refine (rsame_any _ _ _ _ _ hra.reads htk htl).mono ?_; rintro e w3 ⟨rfl, nd, rfl⟩; replace hB := below_drewN hB nd))
              go_ret
              exact ⟨by first | rfl | simp, hB⟩
      · obtain ⟨c0, rfl⟩ := Int.eq_ofNat_of_zero_le (show 0 ≤ cut by omega)
        have dA : decide ((c0 : Int) < 0) = false := by simp
        by_cases hc1 : F.length < c0
        · obtain ⟨c, hc⟩ : ∃ c, c = F.length := ⟨_, rfl⟩
          have dB : decide ((c : Int) < (c0 : Int)) = true := by rw [hc]; simp; omega
          have dB' : decide (c < c0) = true := by rw [hc]; simp; omega
          have hcl2 : c ≤ F.length := by omega
          have hc3 : (c : Int) ≤ 2080 := by omega
          have hSc : (S.size : Int) = (c : Int) := by rw [Hsz.out, hc]
          clear hc hc0 hFl hc1
          rcases hcase with ⟨d1, d2⟩ | ⟨d1, d2⟩
          all_goals
            obtain ⟨hcut, hlt⟩ := (HH.out (c) hcl2).out
            have hall1 := all_any (F.take (c)) hlt
            generalize hA : C.all (F.take (c)) = A at hall1
            have HA := Lib.hid hA
            clear hA hlt
            obtain ⟨ats, an⟩ := A
            simp only at hall1
            have H3 := Lib.hid hall1
            clear hall1
            go_wp2_with (go_at_call 27; with_reducible refine (H3.out _).mono ?_; rintro e w1 ⟨va, rfl, hra, hoa, hba⟩; replace hre := hre.at_ hba; replace hrl := hrl.at_ hba; replace hB := hB.trans (hba.mono hB.size))
            go_loop [14] (fun j => ∃ m : Nat, m ≤ k ∧ j = .int .i64 (m : Int) ∧ C.fl us m ≤ c) (fun j => k - (intOf j).toNat)
            case atStart => exact ⟨0, Nat.zero_le _, rfl, by rw [Hf0.out]; omega⟩
            case round =>
              obtain ⟨m, hm, rfl, hfm⟩ := hrel
              have hcm := hre.cell rfl m (intV (C.fl us m)) (by rw [List.getElem?_map, Heg.out m (by rw [Hul.out]; exact hm)]; rfl)
              unfold intV at hcm
              by_cases hmk : m < k
              · have hcm1 := hre.cell rfl (m + 1) (intV (C.fl us (m + 1))) (by rw [List.getElem?_map, Heg.out (m + 1) (by rw [Hul.out]; exact hmk)]; rfl)
                unfold intV at hcm1
                have Hfin := Lib.hid (fun h1 h2 => Hall.out (c) m (by rw [Hul.out]; exact hm) h1 h2)
                generalize C.fl us m = f0 at *
                generalize hf1 : C.fl us (m + 1) = f1 at *
                have Hf1 := Lib.hid hf1
                clear hf1
                by_cases hle : f1 ≤ c
                · go_wp2
                  exact ⟨⟨m + 1, by omega, by go_num, by rw [Hf1.out]; exact hle⟩, by simp [intOf]; omega⟩
                · have hp := HA.out.symm.trans (Hfin.out hfm (fun _ => by omega))
                  have hp1 : ats = us.take m := congrArg Prod.fst hp
                  have hp2 : an = f0 := congrArg Prod.snd hp
                  clear hp
                  subst hp1 hp2
                  have hmul : m ≤ (us.map strV).length := by rw [List.length_map, Hul.out]; exact hm
                  have htk := SRead.take (by rw [List.length_map, Hul.out]; exact hrl.reads) hmul
                  rw [← List.map_take] at htk
                  have hgl := hre.lt (g := ge) rfl
                  have hmi : (m : Int) ≤ (cl : Int) := by omega
                  have hm0 : (0 : Int) ≤ (m : Int) := by omega
                  have htl : (us.take m).length ≤ 4611686018427387904 := by rw [List.length_take, Hul.out]; omega
                  go_wp2_with (first | (go_at_call 21; with_reducible refine (awake_any _).mono ?_; rintro e w2 ⟨rfl, hb2⟩; have hcm2 := (hb2.cell (p := ⟨ge, m, none⟩) hgl).trans hcm; replace htk := htk.at_ hb2; replace hra := hra.at_ hb2; replace hB := hB.trans (hb2.mono hB.size)) | (go_at_call 29; with_reducible refine (rsame_any _ _ _ _ _ hra.reads htk htl).mono ?_; rintro e w3 ⟨rfl, nd, rfl⟩; replace hB := below_drewN hB nd))
                  go_ret
                  exact ⟨by first | rfl | simp, hB⟩
              · obtain rfl : m = k := by omega
                have hp := HA.out.symm.trans (Hall.out (c) m (by rw [Hul.out]; exact hm) hfm (fun h => by rw [Hul.out] at h; omega))
                generalize C.fl us m = f0 at *
                have hp1 : ats = us.take m := congrArg Prod.fst hp
                have hp2 : an = f0 := congrArg Prod.snd hp
                clear hp
                subst hp1 hp2
                have hmul : m ≤ (us.map strV).length := by rw [List.length_map, Hul.out]; exact hm
                have htk := SRead.take (by rw [List.length_map, Hul.out]; exact hrl.reads) hmul
                rw [← List.map_take] at htk
                have hgl := hre.lt (g := ge) rfl
                have hmi : (m : Int) ≤ (cl : Int) := by omega
                have hm0 : (0 : Int) ≤ (m : Int) := by omega
                have htl : (us.take m).length ≤ 4611686018427387904 := by rw [List.length_take, Hul.out]; omega
                go_wp2_with (first | (go_at_call 21; with_reducible refine (awake_any _).mono ?_; rintro e w2 ⟨rfl, hb2⟩; have hcm2 := (hb2.cell (p := ⟨ge, m, none⟩) hgl).trans hcm; replace htk := htk.at_ hb2; replace hra := hra.at_ hb2; replace hB := hB.trans (hb2.mono hB.size)) | (go_at_call 29; with_reducible refine (rsame_any _ _ _ _ _ hra.reads htk htl).mono ?_; rintro e w3 ⟨rfl, nd, rfl⟩; replace hB := below_drewN hB nd))
                go_ret
                exact ⟨by first | rfl | simp, hB⟩
        · have dB : decide ((S.size : Int) < (c0 : Int)) = false := by rw [Hsz.out]; simp; omega
          have dB' : decide (S.size < c0) = false := by rw [Hsz.out]; simp; omega
          have hcl2 : c0 ≤ F.length := by omega
          have hc3 : (c0 : Int) ≤ 2080 := by omega
          clear hc0 hFl hc1
          rcases hcase with ⟨d1, d2⟩ | ⟨d1, d2⟩
          all_goals
            obtain ⟨hcut, hlt⟩ := (HH.out (c0) hcl2).out
            have hall1 := all_any (F.take (c0)) hlt
            generalize hA : C.all (F.take (c0)) = A at hall1
            have HA := Lib.hid hA
            clear hA hlt
            obtain ⟨ats, an⟩ := A
            simp only at hall1
            have H3 := Lib.hid hall1
            clear hall1
            go_wp2_with (go_at_call 27; with_reducible refine (H3.out _).mono ?_; rintro e w1 ⟨va, rfl, hra, hoa, hba⟩; replace hre := hre.at_ hba; replace hrl := hrl.at_ hba; replace hB := hB.trans (hba.mono hB.size))
            go_loop [14] (fun j => ∃ m : Nat, m ≤ k ∧ j = .int .i64 (m : Int) ∧ C.fl us m ≤ c0) (fun j => k - (intOf j).toNat)
            case atStart => exact ⟨0, Nat.zero_le _, rfl, by rw [Hf0.out]; omega⟩
            case round =>
              obtain ⟨m, hm, rfl, hfm⟩ := hrel
              have hcm := hre.cell rfl m (intV (C.fl us m)) (by rw [List.getElem?_map, Heg.out m (by rw [Hul.out]; exact hm)]; rfl)
              unfold intV at hcm
              by_cases hmk : m < k
              · have hcm1 := hre.cell rfl (m + 1) (intV (C.fl us (m + 1))) (by rw [List.getElem?_map, Heg.out (m + 1) (by rw [Hul.out]; exact hmk)]; rfl)
                unfold intV at hcm1
                have Hfin := Lib.hid (fun h1 h2 => Hall.out (c0) m (by rw [Hul.out]; exact hm) h1 h2)
                generalize C.fl us m = f0 at *
                generalize hf1 : C.fl us (m + 1) = f1 at *
                have Hf1 := Lib.hid hf1
                clear hf1
                by_cases hle : f1 ≤ c0
                · go_wp2
                  exact ⟨⟨m + 1, by omega, by go_num, by rw [Hf1.out]; exact hle⟩, by simp [intOf]; omega⟩
                · have hp := HA.out.symm.trans (Hfin.out hfm (fun _ => by omega))
                  have hp1 : ats = us.take m := congrArg Prod.fst hp
                  have hp2 : an = f0 := congrArg Prod.snd hp
                  clear hp
                  subst hp1 hp2
                  have hmul : m ≤ (us.map strV).length := by rw [List.length_map, Hul.out]; exact hm
                  have htk := SRead.take (by rw [List.length_map, Hul.out]; exact hrl.reads) hmul
                  rw [← List.map_take] at htk
                  have hgl := hre.lt (g := ge) rfl
                  have hmi : (m : Int) ≤ (cl : Int) := by omega
                  have hm0 : (0 : Int) ≤ (m : Int) := by omega
                  have htl : (us.take m).length ≤ 4611686018427387904 := by rw [List.length_take, Hul.out]; omega
                  go_wp2_with (first | (go_at_call 21; with_reducible refine (awake_any _).mono ?_; rintro e w2 ⟨rfl, hb2⟩; have hcm2 := (hb2.cell (p := ⟨ge, m, none⟩) hgl).trans hcm; replace htk := htk.at_ hb2; replace hra := hra.at_ hb2; replace hB := hB.trans (hb2.mono hB.size)) | (go_at_call 29; with_reducible refine (rsame_any _ _ _ _ _ hra.reads htk htl).mono ?_; rintro e w3 ⟨rfl, nd, rfl⟩; replace hB := below_drewN hB nd))
                  go_ret
                  exact ⟨by first | rfl | simp, hB⟩
              · obtain rfl : m = k := by omega
                have hp := HA.out.symm.trans (Hall.out (c0) m (by rw [Hul.out]; exact hm) hfm (fun h => by rw [Hul.out] at h; omega))
                generalize C.fl us m = f0 at *
                have hp1 : ats = us.take m := congrArg Prod.fst hp
                have hp2 : an = f0 := congrArg Prod.snd hp
                clear hp
                subst hp1 hp2
                have hmul : m ≤ (us.map strV).length := by rw [List.length_map, Hul.out]; exact hm
                have htk := SRead.take (by rw [List.length_map, Hul.out]; exact hrl.reads) hmul
                rw [← List.map_take] at htk
                have hgl := hre.lt (g := ge) rfl
                have hmi : (m : Int) ≤ (cl : Int) := by omega
                have hm0 : (0 : Int) ≤ (m : Int) := by omega
                have htl : (us.take m).length ≤ 4611686018427387904 := by rw [List.length_take, Hul.out]; omega
                go_wp2_with (first | (go_at_call 21; with_reducible refine (awake_any _).mono ?_; rintro e w2 ⟨rfl, hb2⟩; have hcm2 := (hb2.cell (p := ⟨ge, m, none⟩) hgl).trans hcm; replace htk := htk.at_ hb2; replace hra := hra.at_ hb2; replace hB := hB.trans (hb2.mono hB.size)) | (go_at_call 29; with_reducible refine (rsame_any _ _ _ _ _ hra.reads htk htl).mono ?_; rintro e w3 ⟨rfl, nd, rfl⟩; replace hB := below_drewN hB nd))
                go_ret
                exact ⟨by first | rfl | simp, hB⟩
set_option maxRecDepth 1000000 in
theorem cuts_law : LawHolds 5 Try.f5 := by
  intro H enc W base args ds p hval hA
  rw [Try.params5] at hA hval
  obtain ⟨v0, vs0, d0, ds0, p0, q0, hargs, rfl, rfl, k0, r0⟩ := trodAll_cons hA
  obtain ⟨v1, vs1, d1, ds1, p1, q1, rfl, rfl, rfl, k1, r1⟩ := trodAll_cons r0
  obtain ⟨rfl, rfl, rfl⟩ := trodAll_nil r1
  obtain rfl : args = #[v0, v1] := by cases args; simp_all
  obtain ⟨ts, hts, _, _⟩ := open_texts (hval 0 35 v0 rfl rfl) k0
  obtain ⟨cut, rfl, _, _, _⟩ := open_int Try.underlying3 (hval 1 3 v1 rfl rfl) k1
  exact cuts_walk ts v0 cut W hts

theorem cuts_lifted (os : Os) (started : os.Started) (H : Type) (enc : TypeId × Value → H) :
    ReturnsInHanded {} Try.checked os 5 .any (Rows.sealCutsSpec.pre6 enc Try.prog Try.f5 Rows.sealCutsRow.domain false) (Rows.sealCutsSpec.post enc Try.prog Try.f5 false true false false) :=
  lifted_of started (by kernel_rfl) Try.func5
    (ChangeSpec.witness6 (enc := enc) (C := Try.checked) false ⟨#[], #[.slice none 0 0, .int .i64 0], []⟩ 8 (by kernel_rfl) (by kernel_rfl) (by kernel_rfl) (by kernel_rfl))
    rfl (by kernel_rfl) (fun ds h => by rw [Try.params5] at h; match ds, h with | [_, _], _ => rfl) (by rw [Try.params5]; exact of_decide_eq_true (by kernel_rfl)) cuts_law
theorem cuts_over : Rows.sealCutsRow.holds Try.pinned (OpenSpec.ofChange Rows.sealCutsSpec) :=
  OpenClaim.holds_of_wide 5 Try.f5 rfl rfl rfl rfl rfl rfl rfl ⟨rfl, rfl, rfl, rfl, rfl⟩ rfl rfl rfl rfl rfl (by kernel_rfl) Try.func5 (by kernel_rfl)
    (of_decide_eq_true (by kernel_rfl)) (by unfold Func.isWrapper; first | (rw [if_pos (by decide +kernel)]; kernel_rfl) | (rw [if_neg (by decide +kernel)]; exact ⟨rfl, rfl⟩))
    (fun os started H enc _ => cuts_lifted os started H enc)
/-- The statement. -/
theorem cuts_proved : Rows.SealCutsSaid := cuts_over
#print axioms cuts_proved
end Go.Proofs.Ytknkbioalohofaa
