/- The walk of DiskApart. -/
import Derived.Test.YtknkbioalohofaaOpenAct
import Derived.Test.YtknkbioalohofaaPureDisk3
namespace Go.Proofs.Ytknkbioalohofaa
open Go.RowKit Go.Maps Go.ChangeMaps Go.MapKept Go.WideMaps

theorem DkAt.names {B : Nat} {w : World} {p : Nat} {M : D.Dk} (h : DkAt B w p M) : M.files.Pairwise fun x y => x.name ≠ y.name := by
  obtain ⟨mb, Es, h⟩ := h
  rw [← h.eq, List.pairwise_map]
  exact h.names
theorem size_act : (Try.prog.info? 71).map (·.size) = some 6 := by kernel_rfl
theorem str_yes {a b : List UInt8} (h : a = b) : ((⟨a.toArray⟩ : ByteArray).toList == (⟨b.toArray⟩ : ByteArray).toList) = true := by subst h; exact beq_self_eq_true _
theorem spoil_lit {B : Nat} {w : World} {p : Nat} {M : D.Dk} (h : DkAt B w p M) (n : List UInt8) (t : Int) (y : UInt8) (hn : n.length ≤ 9223372036854775807) (ht : -9223372036854775808 ≤ t ∧ t < 9223372036854775808) (hu : D.used M.files ≤ 1099511627776) {z : Int} (hz : (y.toNat : Int) = z) :
    Calls Try.prog 49 #[.pointer (some ⟨p, 0, none⟩), .string ⟨n.toArray⟩, .int .i64 t, .int .u8 z] w fun e w' => e = .returned (.int .i64 ((D.spoil M n t y).2 : Int)) ∧ DkAt B w' p (D.spoil M n t y).1 ∧ DStp B w w' := by
  rw [← hz]; exact spoil_any h n t y hn ht hu
set_option maxRecDepth 100000 in
set_option maxHeartbeats 8000000 in
theorem dapart_walk (b : List UInt8) (al : List D.A5) (v : Value) (w : World) (hT : ActsAt w v al) :
    Calls Try.prog 12 #[.string ⟨b.toArray⟩, v] w fun e w' => e = .returned (.bool true) ∧ Below w.heap.size w w' := by
  have AW := Lib.hid (fun W => dawake_any W)
  have CB := Lib.hid (fun W => lcut_to b 100 (z := 100) rfl W)
  have hb : (b.take 100).length ≤ 100 := by rw [List.length_take]; omega
  generalize b.take 100 = b1 at *
  have NW := Lib.hid (new_to (M' := ⟨1048576, -1, false, []⟩) 1048576 (by omega) w rfl)
  have A0 := Lib.hid (fun W p (h : DkAt w.heap.size W p ⟨1048576, -1, false, []⟩) => append_to (z := 0) (M' := ⟨1048576, -1, false, [⟨[109, 105, 110, 101], b1, 0⟩]⟩) h [109, 105, 110, 101] b1 (by simp) (by omega) (by show 0 + b1.length ≤ _; omega) (by rw [D.append_new rfl rfl rfl (by show (b1.length : Int) ≤ 1048576 - ((0 : Nat) : Int); omega) (by show 0 < 4096; omega)]; rfl) (by rw [D.append_new rfl rfl rfl (by show (b1.length : Int) ≤ 1048576 - ((0 : Nat) : Int); omega) (by show 0 < 4096; omega)]; rfl))
  have S0 := Lib.hid (fun W p (h : DkAt w.heap.size W p ⟨1048576, -1, false, [⟨[109, 105, 110, 101], b1, 0⟩]⟩) => sync_to (z := 0) (M' := ⟨1048576, -1, false, [⟨[109, 105, 110, 101], b1, b1.length⟩]⟩) h [109, 105, 110, 101] (by simp) rfl rfl)
  obtain ⟨At, ct, rfl, hct, hcellt, hok⟩ := hT
  go_enter Try.func12, Try.ntmps12
  go_wp2_with (first | (go_at_call 19; (with_reducible refine (CB.out _).mono ?_); rintro e w2 ⟨rfl, rfl⟩) | (go_at_call 37; (with_reducible refine (NW.out).mono ?_); rintro e w1 ⟨p, rfl, k1, s1⟩) | (go_at_call 38; (with_reducible refine (A0.out _ _ k1).mono ?_); rintro e w2 ⟨rfl, k2, s2⟩) | (go_at_call 39; (with_reducible refine (S0.out _ _ k2).mono ?_); rintro e w3 ⟨rfl, k3, s3⟩))
  have hB3 : Below w.heap.size w w3 := s1.trans (s2.below.trans s3.below)
  clear s1 s2 s3 k1 k2 A0 S0 NW CB
  go_loopw [6] (fun i wr => ∃ (k : Nat) (M : D.Dk), i = .int .i64 (k : Int) ∧ k ≤ al.length ∧ k ≤ 30 ∧ DkAt w.heap.size wr p M ∧ D.fnd D.Fl.name [109, 105, 110, 101] M.files = some ⟨[109, 105, 110, 101], b1, b1.length⟩ ∧ D.used M.files ≤ 100 + 300 * k ∧ Below w.heap.size w wr) (fun i _ => 30 - (intOf i).toNat)
  case atStart => exact ⟨0, _, rfl, by omega, by omega, k3, rfl, by show b1.length + 0 ≤ _; omega, hB3⟩
  case round =>
    clear k3 hB3
    obtain ⟨k, M, rfl, hk1, hk2, k1, hf, hu, s1⟩ := hrel
    have j0 : (0 : Int) ≤ (k : Int) := by omega
    by_cases hmore : k < al.length ∧ k < 30
    · obtain ⟨hm1, hm2⟩ := hmore
      have d2 : decide ((k : Int) < (al.length : Int)) = true := decide_eq_true (by omega)
      have d2' : decide (k < al.length) = true := decide_eq_true (by omega)
      have d3 : decide ((k : Int) < 30) = true := decide_eq_true (by omega)
      have j1 : (k : Int) < (al.length : Int) := by omega
      obtain ⟨a, ha⟩ : ∃ a, al[k]? = some a := ⟨_, List.getElem?_eq_getElem hm1⟩
      have hoka := hok a (List.mem_of_getElem? ha)
      obtain ⟨g, o, rfl, hg, hcl⟩ : ∃ g o, At = some ⟨g, o, none⟩ ∧ g < w.heap.size ∧ ∀ j x, al[j]? = some x → w.rangeAt g (o + j * 6) x.cells := by
        rcases hcellt with e | e
        · exfalso
          have h9 : al.length = 0 := by rw [e]; rfl
          omega
        · exact e
      have cR0 : wr.rangeAt g (o + k * 6) a.cells := fun j u hj => (s1.cell (p := ⟨g, o + k * 6 + j, none⟩) hg).trans (hcl k a ha j u hj)
      have hw1 : IntKind.i64.wrap ((k : Int) + 1) = ((k + 1 : Nat) : Int) := by rw [IntWalk.i64_in _ (by omega)]; omega
      obtain ⟨kind, name, to, bb, n, ks, kv⟩ := a
      have cR : wr.rangeAt g (o + k * 6) [.int .i64 kind, .string ⟨name.toArray⟩, .string ⟨to.toArray⟩, .string ⟨bb.toArray⟩, .int .i64 n, kv] := cR0
      obtain ⟨Ak, ck, hkv, -, -⟩ := hoka.ints
      dsimp only at hkv
      rw [List.length_map] at hkv
      subst hkv
      have hsz : (Try.prog.info? 71).map (·.size) = some [Value.int .i64 kind, .string ⟨name.toArray⟩, .string ⟨to.toArray⟩, .string ⟨bb.toArray⟩, .int .i64 n, .slice Ak ks.length ck].length := size_act
      clear cR0
      have hnl := hoka.name
      have htl := hoka.to
      have hnw := hoka.n
      have hkw := hoka.wf
      have hki := hoka.ints
      clear hcl hcellt ha hok hoka
      dsimp only at hnl htl hnw hkw hki
      have k0 := k1.at_ ((Below.refl _ _).alloc (Nat.le_refl _) (.cells #[.int .i64 kind, .string ⟨name.toArray⟩, .string ⟨to.toArray⟩, .string ⟨bb.toArray⟩, .int .i64 n, .slice Ak ks.length ck] 71))
      have hb0 : Below wr.heap.size wr (wr.alloc (.cells #[.int .i64 kind, .string ⟨name.toArray⟩, .string ⟨to.toArray⟩, .string ⟨bb.toArray⟩, .int .i64 n, .slice Ak ks.length ck] 71)) := (Below.refl _ _).alloc (Nat.le_refl _) _
      have s0 : Below w.heap.size w (wr.alloc (.cells #[.int .i64 kind, .string ⟨name.toArray⟩, .string ⟨to.toArray⟩, .string ⟨bb.toArray⟩, .int .i64 n, .slice Ak ks.length ck] 71)) := s1.trans (hb0.mono s1.size)
      have bA : Blk (wr.alloc (.cells #[.int .i64 kind, .string ⟨name.toArray⟩, .string ⟨to.toArray⟩, .string ⟨bb.toArray⟩, .int .i64 n, .slice Ak ks.length ck] 71)) wr.heap.size #[.int .i64 kind, .string ⟨name.toArray⟩, .string ⟨to.toArray⟩, .string ⟨bb.toArray⟩, .int .i64 n, .slice Ak ks.length ck] 71 := Blk.new _ _ _
      by_cases hnm : name = [109, 105, 110, 101]
      · subst hnm
        go_wp2_with (refine wpList_load_mid rfl 71 (.tmp 38) rfl g (o + k * 6) rfl _ _ cR Try.underlying71 rfl hsz ?_; go_frame)
        go_roundw
        case rel => exact ⟨k + 1, M, rfl, by omega, by omega, k0, hf, by omega, s0⟩
        case measure => simp [intOf]; omega
      · by_cases htm : to = [109, 105, 110, 101]
        · subst htm
          go_wp2_with (refine wpList_load_mid rfl 71 (.tmp 38) rfl g (o + k * 6) rfl _ _ cR Try.underlying71 rfl hsz ?_; go_frame)
          go_roundw
          case rel => exact ⟨k + 1, M, rfl, by omega, by omega, k0, hf, by omega, s0⟩
          case measure => simp [intOf]; omega
        · have hb1 : (name == [109, 105, 110, 101]) = false := by rw [beq_eq_false_iff_ne]; exact hnm
          have hb2 : (to == [109, 105, 110, 101]) = false := by rw [beq_eq_false_iff_ne]; exact htm
          by_cases h1 : kind = 1
          · subst h1
            have OP := Lib.hid (fun W (h : DkAt w.heap.size W p M) => append_any h name (bb.take 300) hnl (by rw [List.length_take]; omega) (by rw [List.length_take]; omega))
            have CU := Lib.hid (fun W => lcut_to bb 300 (z := 300) rfl W)
            have hf' : D.fnd D.Fl.name [109, 105, 110, 101] (D.append M name (bb.take 300)).1.files = _ := (D.append_keeps hnm).trans hf
            have hu' : D.used (D.append M name (bb.take 300)).1.files ≤ 100 + 300 * (k + 1) := Nat.le_trans (D.append_used k1.names) (by rw [List.length_take]; omega)
            replace bA := bA.drew
            generalize bb.take 300 = q at *
            go_wp2_with (refine wpList_load_mid rfl 71 (.tmp 38) rfl g (o + k * 6) rfl _ _ cR Try.underlying71 rfl hsz ?_; go_frame)
            apply wp_region_rel_below_tail 6 [[(5, none)], [(7, none)], [(53, some 1)], [(7, none)], [(55, some 3)], [(56, some 4)]] [eqv _, eqv _, eqv _, eqv _, eqv _, eqv _] (by kernel_rfl) (by kernel_rfl)
            case hobs =>
              refine ⟨?_, ?_⟩
              · rintro L a1 w1 hT - - ⟨h5, -⟩   -- 0: Op.move t5
                have e5 : a1.tmps.getD 5 undef = _ := h5
                have f5 := getD_form e5
                clear h5
                go_simp; exact left_intro rfl (Stp.refl _) trivial
              refine ⟨?_, ?_⟩
              · rintro L a1 w1 hT - - ⟨h7, -⟩   -- 1: Op.fieldAddr 71 t7 1
                have e7 : a1.tmps.getD 7 undef = _ := h7
                have f7 := getD_form e7
                clear h7
                go_simp; exact left_intro rfl (Stp.refl _) trivial
              refine ⟨?_, ?_⟩
              · rintro L a1 w1 hT - - ⟨h53, -⟩   -- 2: Op.load 9 t53
                have e53 : a1.tmps.getD 53 undef = _ := h53
                have f53 := getD_form e53
                clear h53
                have c1 := (bA.at_ hT).cellv (i := 1) rfl
                go_simp; exact left_intro rfl (Stp.refl _) trivial
              refine ⟨?_, ?_⟩
              · rintro L a1 w1 hT - - ⟨h7, -⟩   -- 3: Op.fieldAddr 71 t7 3
                have e7 : a1.tmps.getD 7 undef = _ := h7
                have f7 := getD_form e7
                clear h7
                go_simp; exact left_intro rfl (Stp.refl _) trivial
              refine ⟨?_, ?_⟩
              · rintro L a1 w1 hT - - ⟨h55, -⟩   -- 4: Op.load 9 t55
                have e55 : a1.tmps.getD 55 undef = _ := h55
                have f55 := getD_form e55
                clear h55
                have c3 := (bA.at_ hT).cellv (i := 3) rfl
                go_simp; exact left_intro rfl (Stp.refl _) trivial
              refine ⟨?_, ?_⟩
              · rintro L a1 w1 hT - - ⟨h56, -⟩   -- 5: Op.call { value (Operand.func 19), args := #[t56, const (300:i64)], argTypes := #[9, 3] }
                have e56 : a1.tmps.getD 56 undef = _ := h56
                have f56 := getD_form e56
                clear h56
                go_simp; go_at_call 19; (with_reducible refine (CU.out _).mono ?_); rintro e w2 ⟨rfl, rfl⟩; exact left_intro rfl (Stp.refl _) trivial
              trivial
            case hmono => repeat (first | exact trivial | refine ⟨fun _ _ _ _ h => h, ?_⟩)
            case hend =>
              intro w2 hT
              rintro _ rfl _ rfl _ rfl _ rfl _ rfl _ rfl
              change wpList _ _ _ _ _ _
              simp only [Act.put, List.setIfInBounds_toArray, List.set_cons_succ, List.set_cons_zero, List.drop_succ_cons, List.drop_zero]
              have k5 := k0.at_ hT
              go_wp2_with (go_at_call 38; (with_reducible refine (OP.out _ k5).mono ?_); rintro e w7 ⟨rfl, k2, s2'⟩; have s2 := (DStp.of hT s0.size).trans s2')
              go_roundw
              case rel => exact ⟨k + 1, _, rfl, by omega, by omega, k2, hf', hu', s0.trans s2.below⟩
              case measure => simp [intOf]; omega
          · by_cases h2 : kind = 2
            · subst h2
              have OP := Lib.hid (sync_any k0 name hnl)
              have hf' : D.fnd D.Fl.name [109, 105, 110, 101] (D.sync M name).1.files = _ := (D.sync_keeps hnm).trans hf
              have hu' : D.used (D.sync M name).1.files ≤ 100 + 300 * (k + 1) := by rw [D.sync_used]; omega
              clear bA
              go_wp2_with (first | (refine wpList_load_mid rfl 71 (.tmp 38) rfl g (o + k * 6) rfl _ _ cR Try.underlying71 rfl hsz ?_; go_frame) | (go_at_call 39; (with_reducible refine OP.out.mono ?_); rintro e w2 ⟨rfl, k2, s2⟩))
              go_roundw
              case rel => exact ⟨k + 1, _, rfl, by omega, by omega, k2, hf', hu', s0.trans s2.below⟩
              case measure => simp [intOf]; omega
            · by_cases h3 : kind = 3
              · subst h3
                have OP := Lib.hid (rename_any k0 name to hnl htl)
                have hf' : D.fnd D.Fl.name [109, 105, 110, 101] (D.rename M name to).1.files = _ := (D.rename_keeps hnm htm).trans hf
                have hu' : D.used (D.rename M name to).1.files ≤ 100 + 300 * (k + 1) := Nat.le_trans D.rename_used (by omega)
                clear bA
                go_wp2_with (first | (refine wpList_load_mid rfl 71 (.tmp 38) rfl g (o + k * 6) rfl _ _ cR Try.underlying71 rfl hsz ?_; go_frame) | (go_at_call 48; (with_reducible refine OP.out.mono ?_); rintro e w2 ⟨rfl, k2, s2⟩))
                go_roundw
                case rel => exact ⟨k + 1, _, rfl, by omega, by omega, k2, hf', hu', s0.trans s2.below⟩
                case measure => simp [intOf]; omega
              · by_cases h4 : kind = 4
                · subst h4
                  have OP := Lib.hid (remove_any k0 name hnl)
                  have hf' : D.fnd D.Fl.name [109, 105, 110, 101] (D.remove M name).1.files = _ := (D.remove_keeps hnm).trans hf
                  have hu' : D.used (D.remove M name).1.files ≤ 100 + 300 * (k + 1) := Nat.le_trans D.remove_used (by omega)
                  clear bA
                  go_wp2_with (first | (refine wpList_load_mid rfl 71 (.tmp 38) rfl g (o + k * 6) rfl _ _ cR Try.underlying71 rfl hsz ?_; go_frame) | (go_at_call 47; (with_reducible refine OP.out.mono ?_); rintro e w2 ⟨rfl, k2, s2⟩))
                  go_roundw
                  case rel => exact ⟨k + 1, _, rfl, by omega, by omega, k2, hf', hu', s0.trans s2.below⟩
                  case measure => simp [intOf]; omega
                · by_cases h6 : kind = 6
                  · subst h6
                    have OP := Lib.hid (arm_any k0 n hnw)
                    have hf' : D.fnd D.Fl.name [109, 105, 110, 101] (D.arm M n).files = _ := (congrArg _ (D.arm_files n)).trans hf
                    have hu' : D.used (D.arm M n).files ≤ 100 + 300 * (k + 1) := by rw [D.arm_files]; omega
                    clear bA
                    go_wp2_with (first | (refine wpList_load_mid rfl 71 (.tmp 38) rfl g (o + k * 6) rfl _ _ cR Try.underlying71 rfl hsz ?_; go_frame) | (go_at_call 40; (with_reducible refine OP.out.mono ?_); rintro e w2 ⟨rfl, k2, s2⟩))
                    go_roundw
                    case rel => exact ⟨k + 1, _, rfl, by omega, by omega, k2, hf', hu', s0.trans s2.below⟩
                    case measure => simp [intOf]; omega
                  · by_cases h7 : kind = 7
                    · subst h7
                      have FW := Lib.hid (few_to ks (.slice Ak ks.length ck) _ (ints_at hki (Nat.le_refl _) s0) 20 (by omega) (by omega) (z := 20) rfl)
                      have OP := Lib.hid (fun W v (h : DkAt w.heap.size W p M) hk => crash_any h (ks.take 20) v (by rw [List.length_take]; omega) (fun a ha => hkw a (List.mem_of_mem_take ha)) hk (by omega))
                      have hf' : D.fnd D.Fl.name [109, 105, 110, 101] (D.crash M (ks.take 20)).files = _ := D.crash_sure (ks.take 20) rfl hf
                      have hu' : D.used (D.crash M (ks.take 20)).files ≤ 100 + 300 * (k + 1) := Nat.le_trans (D.crash_used _) (by omega)
                      clear bA
                      go_wp2_with (first | (refine wpList_load_mid rfl 71 (.tmp 38) rfl g (o + k * 6) rfl _ _ cR Try.underlying71 rfl hsz ?_; go_frame) | (go_at_call 42; (with_reducible refine FW.out.mono ?_); rintro e w5 ⟨v5, rfl, r5, s5⟩; have k5 := k0.at_ s5; have hk5 := row_ints (B := w.heap.size) r5) | (go_at_call 41; (with_reducible refine (OP.out _ _ k5 hk5).mono ?_); rintro e w2 ⟨rfl, k2, s2'⟩; have s2 := (DStp.of s5 s0.size).trans s2'))
                      go_roundw
                      case rel => exact ⟨k + 1, _, rfl, by omega, by omega, k2, hf', hu', s0.trans s2.below⟩
                      case measure => simp [intOf]; omega
                    · by_cases h8 : kind = 8
                      · subst h8
                        have OP := Lib.hid (spoil_lit k0 name n 1 hnl hnw (by omega) (z := 1) rfl)
                        have hf' : D.fnd D.Fl.name [109, 105, 110, 101] (D.spoil M name n 1).1.files = _ := (D.spoil_keeps n 1 hnm).trans hf
                        have hu' : D.used (D.spoil M name n 1).1.files ≤ 100 + 300 * (k + 1) := by rw [D.spoil_used]; omega
                        clear bA
                        go_wp2_with (first | (refine wpList_load_mid rfl 71 (.tmp 38) rfl g (o + k * 6) rfl _ _ cR Try.underlying71 rfl hsz ?_; go_frame) | (go_at_call 49; (with_reducible refine OP.out.mono ?_); rintro e w2 ⟨rfl, k2, s2⟩))
                        go_roundw
                        case rel => exact ⟨k + 1, _, rfl, by omega, by omega, k2, hf', hu', s0.trans s2.below⟩
                        case measure => simp [intOf]; omega
                      · have q1 : (kind == 1) = false := by rw [beq_eq_false_iff_ne]; exact h1
                        have q2 : (kind == 2) = false := by rw [beq_eq_false_iff_ne]; exact h2
                        have q3 : (kind == 3) = false := by rw [beq_eq_false_iff_ne]; exact h3
                        have q4 : (kind == 4) = false := by rw [beq_eq_false_iff_ne]; exact h4
                        have q6 : (kind == 6) = false := by rw [beq_eq_false_iff_ne]; exact h6
                        have q7 : (kind == 7) = false := by rw [beq_eq_false_iff_ne]; exact h7
                        have q8 : (kind == 8) = false := by rw [beq_eq_false_iff_ne]; exact h8
                        go_wp2_with (refine wpList_load_mid rfl 71 (.tmp 38) rfl g (o + k * 6) rfl _ _ cR Try.underlying71 rfl hsz ?_; go_frame)
                        go_roundw
                        case rel => exact ⟨k + 1, M, rfl, by omega, by omega, k0, hf, by omega, s0⟩
                        case measure => simp [intOf]; omega
    · have hsplit : (decide ((k : Int) < (al.length : Int)) = false ∧ decide (k < al.length) = false) ∨ (decide ((k : Int) < (al.length : Int)) = true ∧ decide (k < al.length) = true ∧ decide ((k : Int) < 30) = false ∧ decide (k < 30) = false) := by
        by_cases h9 : k < al.length
        · exact .inr ⟨decide_eq_true (by omega), decide_eq_true (by omega), decide_eq_false (by omega), decide_eq_false (by omega)⟩
        · exact .inl ⟨decide_eq_false (by omega), decide_eq_false (by omega)⟩
      have CR := Lib.hid (crash_any k1 [] (.slice none 0 0) (by simp) (by simp) (fun w' _ => intsAt_nil w') (by omega))
      have hf' := D.crash_sure (q := [109, 105, 110, 101]) [] rfl hf
      have RD := Lib.hid (fun W (h : DkAt w.heap.size W p (D.crash M [])) => read_to (s := b1) (z := 0) h [109, 105, 110, 101] (by simp) (by rw [D.read_some rfl hf']) (by rw [D.read_some rfl hf']; rfl))
      clear hmore hcellt hf'
      rcases hsplit with ⟨h1, h2⟩ | ⟨h1, h2, h3, h4⟩
      · skip
        go_wp2_with (first | (go_at_call 41; (with_reducible refine CR.out.mono ?_); rintro e w2 ⟨rfl, k2, s2⟩) | (go_at_call 43; (with_reducible refine (RD.out _ k2).mono ?_); rintro e w9 ⟨rfl, rfl⟩) | (go_at_call 45; (with_reducible refine (AW.out _).mono ?_); rintro e w4 ⟨rfl, s4⟩))
        go_ret
        exact ⟨rfl, s1.trans (s2.below.trans (s4.mono (Nat.le_of_lt k2.lt)))⟩
      · skip
        go_wp2_with (first | (go_at_call 41; (with_reducible refine CR.out.mono ?_); rintro e w2 ⟨rfl, k2, s2⟩) | (go_at_call 43; (with_reducible refine (RD.out _ k2).mono ?_); rintro e w9 ⟨rfl, rfl⟩) | (go_at_call 45; (with_reducible refine (AW.out _).mono ?_); rintro e w4 ⟨rfl, s4⟩))
        go_ret
        exact ⟨rfl, s1.trans (s2.below.trans (s4.mono (Nat.le_of_lt k2.lt)))⟩
end Go.Proofs.Ytknkbioalohofaa
