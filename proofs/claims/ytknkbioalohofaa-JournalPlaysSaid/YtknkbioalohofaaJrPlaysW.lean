/- The walk of JournalPlays. -/
import Derived.Test.YtknkbioalohofaaJrM
namespace Go.Proofs.Ytknkbioalohofaa
open Go.RowKit

set_option maxRecDepth 100000 in
set_option maxHeartbeats 16000000 in
theorem jplays_walk (room : Int) (hr : -9223372036854775808 ≤ room ∧ room < 9223372036854775808) (al : List Jr.A7) (v : Value) (w : World) (hT : ActsAt7 w v al) :
    Calls Try.prog 17 #[.int .i64 room, v] w fun e w' => e = .returned (.bool true) ∧ Below w.heap.size w w' := by
  have AW := Lib.hid (fun W => jawake_any W)
  by_cases hout : room < 0 ∨ 5000 < room
  · by_cases h0 : room < 0
    · have d0 : decide (room < 0) = true := decide_eq_true h0
      go_enter Try.func17, Try.ntmps17
      go_wp2_with (go_at_call 59; (with_reducible refine (AW.out _).mono ?_); rintro e w1 ⟨rfl, hb⟩)
      go_ret
      exact ⟨rfl, hb⟩
    · have d0 : decide (room < 0) = false := decide_eq_false h0
      have d1 : decide (5000 < room) = true := decide_eq_true (by omega)
      go_enter Try.func17, Try.ntmps17
      go_wp2_with (go_at_call 59; (with_reducible refine (AW.out _).mono ?_); rintro e w1 ⟨rfl, hb⟩)
      go_ret
      exact ⟨rfl, hb⟩
  obtain ⟨r, rfl⟩ : ∃ r : Nat, room = (r : Int) := ⟨room.toNat, by omega⟩
  have hr5 : r ≤ 5000 := by omega
  have d0 : decide ((r : Int) < 0) = false := decide_eq_false (by omega)
  have d1 : decide (5000 < (r : Int)) = false := decide_eq_false (by omega)
  have NW := Lib.hid (new_to (M' := Jr.mk r []) (r : Int) (by omega) w (by show (⟨max (r : Int) 0, -1, false, []⟩ : D.Dk) = ⟨(r : Int), -1, false, []⟩; rw [show max (r : Int) 0 = (r : Int) from by omega]))
  have O1 := Lib.hid (fun W p (h : DkAt w.heap.size W p (Jr.mk r [])) => jopen_to (n := 0) (T := []) h rfl rfl Jr.Up.nil (by show 0 ≤ _; omega) rfl rfl (L := 0) rfl)
  obtain ⟨At, ct, rfl, hct, hcellt, hok⟩ := hT
  clear hout hr
  go_enter Try.func17, Try.ntmps17
  go_wp2_with (first | (go_at_call 37; (with_reducible refine NW.out.mono ?_); rintro e w1 ⟨p, rfl, k1, s1⟩) | (go_at_call 56; (with_reducible refine (O1.out _ _ k1).mono ?_); rintro e w2 ⟨jb, A2, c2, rfl, q2, j2, r2, k2, b2⟩) | (go_at_call 59; (with_reducible refine (AW.out _).mono ?_); rintro e w3 ⟨rfl, b3⟩))
  have B3 := (s1.trans (b2.mono s1.size)).trans (b3.mono (s1.trans (b2.mono s1.size)).size)
  have rA : Row1 (w3.alloc (.cells #[] 9)) 9 (.slice (some ⟨w3.heap.size, 0, none⟩) 0 0) [] := Row1.build w3 _ [] #[] 0 rfl rfl (by omega)
  have rB : Row1 ((w3.alloc (.cells #[] 9)).alloc (.cells #[.slice (some ⟨w3.heap.size, 0, none⟩) 0 0] 35)) 35 (.slice (some ⟨w3.heap.size + 1, 0, none⟩) 1 1) [.slice (some ⟨w3.heap.size, 0, none⟩) 0 0] := by
    have := Row1.build (w3.alloc (.cells #[] 9)) 35 [.slice (some ⟨w3.heap.size, 0, none⟩) 0 0] #[.slice (some ⟨w3.heap.size, 0, none⟩) 0 0] 1 rfl rfl (by omega)
    rw [World.size_alloc] at this
    exact this
  have gr0 := Grid.one (l := []) rB (rA.alloc (.cells #[.slice (some ⟨w3.heap.size, 0, none⟩) 0 0] 35))
  have bb := ((Below.refl w3.heap.size w3).alloc (Nat.le_refl _) (.cells #[] 9)).alloc (by rw [World.size_alloc]; omega) (.cells #[.slice (some ⟨w3.heap.size, 0, none⟩) 0 0] 35)
  have hjb : w.heap.size ≤ jb := Nat.le_trans s1.size q2
  have jb0 := (j2.at_ b3).at_ bb
  have kb0 := (k2.at_ b3).at_ bb
  have Bb0 := B3.trans (bb.mono B3.size)
  have hw3 : w.heap.size ≤ w3.heap.size + 1 := Nat.le_succ_of_le B3.size
  have pl0 : Jr.Pl r [] 0 0 [[]] := ⟨Jr.Up.nil, by simp, by simp, by simp, by simp, Nat.zero_le _, rfl, Nat.le_refl _, fun i _ hi => by
    obtain rfl : i = 0 := by omega
    rfl⟩
  clear NW O1 k1 r2 rA rB bb B3 b3 j2 k2 b2 s1 q2
  go_loopw [6, 9, 11, 12, 13, 14] (fun u s db fi lo i wr => ∃ (k n first jb : Nat) (L : List Jr.Sg) (S : List (List (List UInt8))), k ≤ al.length ∧ k ≤ 40 ∧ n ≤ k ∧ i = .int .i64 (k : Int) ∧ u = .pointer (some ⟨jb, 0, none⟩) ∧ w.heap.size ≤ jb ∧ JrAt wr jb p n ∧ db = .bool false ∧ fi = .int .i64 (first : Int) ∧ lo = .int .i64 (first : Int) ∧ Jr.Pl r L n first S ∧ L.length ≤ k ∧ S.flatten.length ≤ k ∧ DkAt w.heap.size wr p (Jr.mk r L) ∧ Grid wr s S ∧ (s.ownBlock = none ∨ ∃ k, w.heap.size ≤ k ∧ s.ownBlock = some k) ∧ Below w.heap.size w wr) (fun _ _ _ _ _ i _ => 40 - (intOf i).toNat)
  case atStart => exact ⟨0, 0, 0, jb, [], [[]], by omega, by omega, by omega, rfl, rfl, hjb, jb0, rfl, rfl, rfl, pl0, Nat.le_refl _, Nat.le_refl _, kb0, gr0, .inr ⟨_, hw3, rfl⟩, Bb0⟩
  case round =>
    clear gr0 hjb jb0 kb0 Bb0 hw3 pl0
    obtain ⟨k, n, first, jb, L, S, hk1, hk2, hnk, rfl, rfl, hjb, hj, rfl, rfl, rfl, hPl, hLk, hSk, hdk, hgr, hown, hB⟩ := hrel
    have q0 : (0 : Int) ≤ (k : Int) := by omega
    obtain ⟨A9, c9, rfl, hgr⟩ := grid_open hgr
    by_cases hmore : k < al.length ∧ k < 40
    · obtain ⟨hm1, hm2⟩ := hmore
      have d2 : decide ((k : Int) < (al.length : Int)) = true := decide_eq_true (by omega)
      have d3 : decide ((k : Int) < 40) = true := decide_eq_true (by omega)
      have q1 : (k : Int) < (al.length : Int) := by omega
      obtain ⟨a, ha⟩ : ∃ a, al[k]? = some a := ⟨_, List.getElem?_eq_getElem hm1⟩
      have hoka := hok a (List.mem_of_getElem? ha)
      obtain ⟨g, o, rfl, hg, hcl⟩ : ∃ g o, At = some ⟨g, o, none⟩ ∧ g < w.heap.size ∧ ∀ j x, al[j]? = some x → w.rangeAt g (o + j * 5) x.cells := by
        rcases hcellt with e | e
        · exfalso
          have h9 : al.length = 0 := by rw [e]; rfl
          omega
        · exact e
      have cR0 : wr.rangeAt g (o + k * 5) a.cells := fun j u hj => (hB.cell (p := ⟨g, o + k * 5 + j, none⟩) hg).trans (hcl k a ha j u hj)
      have hw1 : IntKind.i64.wrap ((k : Int) + 1) = ((k + 1 : Nat) : Int) := by rw [IntWalk.i64_in _ (by omega)]; omega
      obtain ⟨kind, N, arm, s0, ks, kv⟩ := a
      have cR : wr.rangeAt g (o + k * 5) [.int .i64 kind, .int .i64 N, .int .i64 arm, .string ⟨s0.toArray⟩, kv] := cR0
      obtain ⟨Ak, ck, hkv, -, -⟩ := hoka.ints
      dsimp only at hkv
      rw [List.length_map] at hkv
      subst hkv
      have hsz : (Try.prog.info? 97).map (·.size) = some [Value.int .i64 kind, .int .i64 N, .int .i64 arm, .string ⟨s0.toArray⟩, .slice Ak ks.length ck].length := size_act7
      clear cR0
      have hNw := hoka.n
      have haw := hoka.arm
      have hkw := hoka.wf
      have hki := hoka.ints
      have hkl := hoka.kl
      clear hcl hcellt ha hok hoka
      dsimp only at hNw haw hkw hki hkl
      have hb0 : Below wr.heap.size wr (wr.alloc (.cells #[.int .i64 kind, .int .i64 N, .int .i64 arm, .string ⟨s0.toArray⟩, .slice Ak ks.length ck] 97)) := (Below.refl _ _).alloc (Nat.le_refl _) _
      have k0 := hdk.at_ hb0
      have j0 := hj.at_ hb0
      have g0 := hgr.at_ hb0
      have B0 := hB.trans (hb0.mono hB.size)
      have bA : Blk (wr.alloc (.cells #[.int .i64 kind, .int .i64 N, .int .i64 arm, .string ⟨s0.toArray⟩, .slice Ak ks.length ck] 97)) wr.heap.size #[.int .i64 kind, .int .i64 N, .int .i64 arm, .string ⟨s0.toArray⟩, .slice Ak ks.length ck] 97 := Blk.new _ _ _
      have AR := Lib.hid (arm_on k0 arm haw)
      obtain ⟨f, hf⟩ : ∃ f, f = max arm (-1) := ⟨_, rfl⟩
      have hf1 : -1 ≤ f := by omega
      rw [← hf] at AR
      have CU := Lib.hid (fun W => lcut_to s0 300 (z := 300) rfl W)
      have hsl : (s0.take 300).length ≤ 300 := by rw [List.length_take]; omega
      generalize s0.take 300 = s at *
      have hjne := Lib.hid (show wr.heap.size ≠ jb by have := Blk.lt hj; omega)
      clear hf hdk hj hgr hb0 k0
      by_cases h1 : kind = 1
      · subst h1
        obtain ⟨pre, b0, hcur, hpre, hupre, hat, htx⟩ := hPl.cur
        have hused := hPl.used
        rcases Jr.add_plays (s := s) hcur (by omega) (by omega) (r : Int) f hf1 with ⟨hbig, hadd⟩ | ⟨hfit, hadd | ⟨f', hadd⟩⟩
        --<D
        · have AD := Lib.hid (fun W (h : DkAt w.heap.size W p ⟨r, f, false, Jr.files L⟩) (hj : JrAt W jb p n) => jadd_to (z := 9) h hj (by omega) s (by omega) (by show D.used (Jr.files L) + _ ≤ _; omega) hadd rfl)
          clear hadd hbig hat htx hupre hused
          as_aux_lemma =>
            go_wp2_with (first | (refine wpList_load_mid rfl 97 (.tmp 67) rfl g (o + k * 5) rfl _ _ cR Try.underlying97 rfl hsz ?_; go_frame) | (go_at_call 40; first | ((with_reducible refine AR.out.mono ?_); rintro e w2 ⟨rfl, k2, s2⟩; have j2 := j0.dstp s2; have g2 := g0.dstp s2; have bA2 := bA.dstp s2 (by decide) (by decide); have B2 := B0.trans s2.below; have c0 := bA2.cellv (i := 0) rfl; have c1 := bA2.cellv (i := 1) rfl; have c3 := bA2.cellv (i := 3) rfl) | ((with_reducible first | refine (arm_off k5).mono ?_ | refine (arm_dead k5).mono ?_); rintro e w6 ⟨rfl, k6, s6⟩; have j6 := (j5).dstp s6; have g6 := (g5).dstp s6; have bA6 := (bA5).dstp s6 (by decide) (by decide); have B6 := (B5).trans s6.below; have c06 := bA6.cellv (i := 0) rfl; have c46 := bA6.cellv (i := 4) rfl)) | (go_at_call 19; (with_reducible refine (CU.out _).mono ?_); rintro e w3 ⟨rfl, rfl⟩) | (go_at_call 57; (with_reducible refine (AD.out _ k2 j2).mono ?_); rintro e w4 ⟨rfl, k5, s4⟩; have j5 := j2.dstp s4; have g5 := g2.dstp s4; have bA5 := bA2.dstp s4 (by decide) (by decide); have B5 := B2.trans s4.below) | (go_at_call 44; (with_reducible refine (dead_any k6).mono ?_); rintro e w7 ⟨rfl, rfl⟩))
            go_roundw
            case rel => exact ⟨k + 1, n, first, jb, L, S, by omega, by omega, by omega, by rfl, rfl, hjb, j6, rfl, rfl, rfl, hPl, by omega, by omega, k6, g6, hown, B6⟩
            case measure => simp [intOf]; omega
        -->D
        --<E
        · obtain ⟨f', hf', hadd⟩ := hadd
          have hn2 : n < 1000000000 := by omega
          have hPl' := hPl.added (s := s) hn2 hcur hpre hupre hat (by omega) (by omega)
          have hSn : S[n]? = some (Jr.atL L n) := hPl.at_ n hPl.fn (Nat.le_refl _)
          have hSne : S ≠ [] := by rintro rfl; cases hSn
          have hflat := flat_set S n (Jr.atL L n) s hSn
          have hLl : (pre ++ [(⟨n, b0 ++ C.wrap s, (b0 ++ C.wrap s).length⟩ : Jr.Sg)]).length ≤ k + 1 := by
            rw [List.length_append, List.length_singleton]
            rcases hcur.eq with ⟨e, _⟩ | e
            · rw [← e]; omega
            · have := congrArg List.length e
              rw [List.length_append, List.length_singleton] at this
              omega
          have AD := Lib.hid (fun W (h : DkAt w.heap.size W p ⟨r, f, false, Jr.files L⟩) (hj : JrAt W jb p n) => jadd_to (z := 0) h hj (by omega) s (by omega) (by show D.used (Jr.files L) + _ ≤ _; omega) hadd rfl)
          have hlb : (Jr.atL L n).length ≤ 40 := by
            have : ∀ (S : List (List (List UInt8))) (n : Nat) (l : List (List UInt8)), S[n]? = some l → l.length ≤ S.flatten.length := by
              intro S
              induction S with
              | nil => intro n l h; cases h
              | cons a S ih =>
                intro n l h
                rw [List.flatten_cons, List.length_append]
                cases n with
                | zero => injection h with h; rw [h]; omega
                | succ n => have := ih n l h; omega
            have := this S n _ hSn
            omega
          obtain ⟨g9, cur9, rfl, -⟩ := grid_shape g0 hSne
          have hw8 : IntKind.i64.wrap ((S.length : Int) - 1) = (n : Int) := by rw [hPl.len]; rw [IntWalk.i64_in _ (by omega)]; omega
          have qn0 : (0 : Int) ≤ (n : Int) := by omega
          have qn1 : (n : Int) < (S.length : Int) := by rw [hPl.len]; omega
          have hg9 : w.heap.size ≤ g9 := by
            rcases hown with e | ⟨x, hx, e⟩
            · cases e
            · injection e with e; subst e; exact hx
          have HL := Lib.hid hLl
          have HF := Lib.hid (show (S.set n (Jr.atL L n ++ [s])).flatten.length ≤ k + 1 by omega)
          have HS := Lib.hid hSn
          have HN := Lib.hid hSne
          clear hadd hfit htx hupre hused hPl hcur hpre hat hflat hLl hSn hSne
          have Htx : Hid ((Jr.atL L n).map strV ++ [strV s] = (Jr.atL L n ++ [s]).map strV) := Lib.hid (by rw [List.map_append]; rfl)
          have hlen : ((Jr.atL L n).map strV).length + 1 ≤ 1000000 := by rw [List.length_map]; omega
          generalize Jr.atL L n = l at *
          generalize pre ++ [(⟨n, b0 ++ C.wrap s, (b0 ++ C.wrap s).length⟩ : Jr.Sg)] = L' at *
          as_aux_lemma =>
            go_wp2_with (first | (refine wpList_load_mid rfl 97 (.tmp 67) rfl g (o + k * 5) rfl _ _ cR Try.underlying97 rfl hsz ?_; go_frame) | (go_at_call 40; first | ((with_reducible refine AR.out.mono ?_); rintro e w2 ⟨rfl, k2, s2⟩; have j2 := j0.dstp s2; have g2 := g0.dstp s2; have bA2 := bA.dstp s2 (by decide) (by decide); have B2 := B0.trans s2.below; have c0 := bA2.cellv (i := 0) rfl; have c1 := bA2.cellv (i := 1) rfl; have c3 := bA2.cellv (i := 3) rfl) | ((with_reducible first | refine (arm_off k7).mono ?_ | refine (arm_dead k7).mono ?_); rintro e w6 ⟨rfl, k6, s6⟩; have j6 := (j7).dstp s6; have g6 := (g7).dstp s6; have bA6 := (bA7).dstp s6 (by decide) (by decide); have B6 := (B7).trans s6.below; have c06 := bA6.cellv (i := 0) rfl; have c46 := bA6.cellv (i := 4) rfl)) | (go_at_call 19; (with_reducible refine (CU.out _).mono ?_); rintro e w3 ⟨rfl, rfl⟩) | (go_at_call 57; (with_reducible refine (AD.out _ k2 j2).mono ?_); rintro e w4 ⟨rfl, k4, s4⟩; have j4 := j2.dstp s4; have g4 := g2.dstp s4; have bA4 := bA2.dstp s4 (by decide) (by decide); have B4 := B2.trans s4.below; have r89 := Row1.build w4 9 [] #[] 0 rfl rfl (by omega); have ba4 := (Below.refl w4.heap.size w4).alloc (Nat.le_refl _) (.cells #[] 9); obtain ⟨Au, cu, hcell4, hu4⟩ := grid_cell (g4.at_ ba4) HS.out) | (at_builtin; first | (refine wpList_append_rows rfl info_str (.tmp 89) (.tmp 95) 35 rfl Try.underlying35 rfl r89 rfl hu4 (str_one _) (by simp only [List.length_nil, List.length_map]; omega) ?_; intro v5 w5 hrow5 hg5 hr5; have b5 := below_grown_own ba4 ba4.size hg5 (.inr ⟨_, Nat.le_refl _, rfl⟩); have own5 := own_later (B := w4.heap.size) (.inr ⟨_, Nat.le_refl _, rfl⟩) ba4.size hr5; rw [List.nil_append] at hrow5) | (refine wpList_append_row rfl info_str (.tmp 96) (.tmp 98) 35 rfl Try.underlying35 rfl (hrow5.alloc _) ⟨w5.heap.size, 0, none⟩ 1 1 [strV s] rfl rfl (new_cells _ _ _ rfl _) (str_one [s]) (by omega) ?_; intro v6 w6 hrow6 hg6 hr6; have b56 := b5.alloc b5.size (.cells #[strV s] 9); have b46 := below_grown_own b56 b56.size hg6 own5; rw [Htx.out] at hrow6; obtain ⟨A6, m6, c6, rfl, hrow7⟩ := row_open' hrow6; have g6 := g4.at_ b46; have fz := g6.free n; obtain ⟨Ax, cx, hcell6, -⟩ := grid_cell g6 HS.out; obtain ⟨gq, cq, hq9, hbk⟩ := grid_shape g6 HN.out; injection hq9 with hq9; injection hq9 with hq9; subst hq9; have o7 := Only.setCell w6 g9 n (.slice A6 m6 c6); have k7 := (k4.at_ b46).only hbk ⟨by decide, by decide, by decide⟩ o7; have j4' : JrAt w6 jb p n := j4.at_ b46; have j7 : JrAt (w6.setCell ⟨g9, n, none⟩ (.slice A6 m6 c6)) jb p n := Blk.off j4' o7 (Blk.ne j4' hbk (by decide)); have bA4' := bA4.at_ b46; have bA7 := Blk.off bA4' o7 (Blk.ne bA4' hbk (by decide)); have g7 := Grid.set g6 hbk hrow7 n; have B7 := o7.below (B4.trans (b46.mono B4.size)) hg9))  | (go_at_call 44; (with_reducible refine (dead_any k6).mono ?_); rintro e w7 ⟨rfl, rfl⟩))
            go_roundw
            case rel => exact ⟨k + 1, n, first, jb, L', S.set n (l ++ [s]), by omega, by omega, by omega, by rfl, rfl, hjb, j6, rfl, rfl, rfl, hPl', HL.out, HF.out, k6, g6, hown, B6⟩
            case measure => simp [intOf]; omega
        -->E
        --<A
        · have hFl : (S.drop first).flatten.length ≤ S.flatten.length := by
            conv => rhs; rw [← List.take_append_drop first S, List.flatten_append, List.length_append]
            omega
          have hflat := hPl.flat_first
          have hfst := hPl.fn
          have hSl := hPl.len
          obtain ⟨L', T, hcr, ⟨hup', hu', htx', hnx', hpl', hfl'⟩, hLl', hT⟩ := hPl.addDies (s := s) (by omega) hcur hpre hupre htx (by omega) (by omega) ks f'
          have huF : D.used (Jr.files (pre ++ [(⟨n, b0 ++ C.wrap s, b0.length⟩ : Jr.Sg)])) ≤ 1099511627776 := by
            have := C.wrap_length s
            rw [Jr.used_app]
            show _ + ((b0 ++ C.wrap s).length + 0) ≤ _
            rw [List.length_append]; omega
          have AD := Lib.hid (fun W (h : DkAt w.heap.size W p ⟨r, f, false, Jr.files L⟩) (hj : JrAt W jb p n) => jadd_to (z := 10) h hj (by omega) s (by omega) (by show D.used (Jr.files L) + _ ≤ _; omega) hadd rfl)
          have CR := Lib.hid (fun W (h : DkAt w.heap.size W p ⟨r, f', true, Jr.files (pre ++ [(⟨n, b0 ++ C.wrap s, b0.length⟩ : Jr.Sg)])⟩) hk => crash_to h ks (.slice Ak ks.length ck) hkl hkw hk huF hcr)
          have FD := Lib.hid (fun W (h : DkAt w.heap.size W p (Jr.mk r L')) => found_any h (by show D.used (Jr.files L') ≤ _; omega) (Jr.next L') (by omega))
          have HN := Lib.hid (show Jr.next L' ≤ k + 1 by omega)
          have HLl := Lib.hid (show L'.length ≤ k + 1 by omega)
          obtain ⟨m1, hm1⟩ : ∃ m, (S.drop first).flatten.length = m := ⟨_, rfl⟩
          obtain ⟨q, hq⟩ : ∃ q, q = m1 + 1 := ⟨_, rfl⟩
          obtain ⟨m0, hm0⟩ : ∃ m, S.flatten.length = m := ⟨_, rfl⟩
          have F0 := Lib.hid (fun W (G : Grid W (.slice A9 S.length c9) S) => flat_to (z := 0) G (by omega) (by omega) 0 (by omega) rfl (X := S.flatten) (by rw [List.drop_zero]) hm0)
          have F1 := Lib.hid (fun W (G : Grid W (.slice A9 S.length c9) S) => flat_to (z := (first : Int)) G (by omega) (by omega) first (by omega) rfl rfl hm1)
          have Htx : Hid (S.flatten.map strV ++ [strV s] = (S.flatten ++ [s]).map strV) := Lib.hid (by rw [List.map_append]; rfl)
          have hwq : IntKind.i64.wrap ((m1 : Int) + 1) = (q : Int) := by rw [IntWalk.i64_in _ (by omega)]; omega
          have hAl : S.flatten.length ≤ 100 := by omega
          have hA2 : (S.flatten ++ [s]).length ≤ 1000000 := by rw [List.length_append, List.length_singleton]; omega
          have hm1k : m1 ≤ k := by omega
          rw [hflat] at hm1
          have HO0 : ∀ x, T.length = x → _ := fun x hx => Lib.hid (fun W (h : DkAt w.heap.size W p (Jr.mk r L')) => jopen_to h rfl rfl hup' (by show D.used (Jr.files L') ≤ _; omega) rfl htx' hx)
          rcases hT with hT | hT
          · have hTl : T.length = m1 := by rw [hT]; exact hm1
            have HO := HO0 m1 hTl
            have HF := Lib.hid (show (Jr.foundL (Jr.mk r L') (Jr.next L')).flatten.length ≤ k + 1 by omega)
            have hE0 : decide (endsL T S.flatten) = true := decide_eq_true (by rw [hT, ← hflat]; exact Jr.ends_drop S first [] _ rfl)
            have E0 := Lib.hid (fun W v1 v2 (h1 : SRead W v1 (T.map strV)) (h2 : SRead W v2 (S.flatten.map strV)) => ends_to h1 h2 (by omega) (by omega) hE0)
            have dq : decide ((q : Int) ≤ (m1 : Int)) = false := decide_eq_false (by omega)
            have dq' : decide (q ≤ m1) = false := decide_eq_false (by omega)
            have E1 := Lib.hid (fun W v1 v2 (h1 : SRead W v1 (T.map strV)) (h2 : SRead W v2 ((S.flatten ++ [s]).map strV)) => ends_to h1 h2 (by omega) hA2 rfl)
            clear HO0 hE0 hadd hcr hfit htx hupre hused hPl hcur hpre hat hflat hm1 hm0 hq hT hTl htx' hup' hu' hnx' hfl' hLl' hFl hA2 hSl huF
            generalize Jr.foundL (Jr.mk r L') (Jr.next L') = S' at *
            generalize Jr.next L' = n' at *
            generalize decide (endsL T (S.flatten ++ [s])) = t at *
            generalize S.flatten ++ [s] = X2 at *
            generalize S.flatten = Al at *
            generalize Jr.files (pre ++ [(⟨n, b0 ++ C.wrap s, b0.length⟩ : Jr.Sg)]) = Fs at *
            cases t
            case false =>
              as_aux_lemma =>
                go_wp2_with (first | (refine wpList_load_mid rfl 97 (.tmp 67) rfl g (o + k * 5) rfl _ _ cR Try.underlying97 rfl hsz ?_; go_frame) | (go_at_call 40; first | ((with_reducible refine AR.out.mono ?_); rintro e w2 ⟨rfl, k2, s2⟩; have j2 := j0.dstp s2; have g2 := g0.dstp s2; have bA2 := bA.dstp s2 (by decide) (by decide); have B2 := B0.trans s2.below; have c0 := bA2.cellv (i := 0) rfl; have c1 := bA2.cellv (i := 1) rfl; have c3 := bA2.cellv (i := 3) rfl) | ((with_reducible first | refine (arm_off k5).mono ?_ | refine (arm_dead k5).mono ?_); rintro e w6 ⟨rfl, k6, s6⟩; have j6 := (j5).dstp s6; have g6 := (g5).dstp s6; have bA6 := (bA5).dstp s6 (by decide) (by decide); have B6 := (B5).trans s6.below; have c06 := bA6.cellv (i := 0) rfl; have c46 := bA6.cellv (i := 4) rfl)) | (go_at_call 19; (with_reducible refine (CU.out _).mono ?_); rintro e w3 ⟨rfl, rfl⟩) | (go_at_call 57; (with_reducible refine (AD.out _ k2 j2).mono ?_); rintro e w4 ⟨rfl, k5, s4⟩; have j5 := j2.dstp s4; have g5 := g2.dstp s4; have bA5 := bA2.dstp s4 (by decide) (by decide); have B5 := B2.trans s4.below) | (go_at_call 44; (with_reducible refine (dead_any k6).mono ?_); rintro e w7 ⟨rfl, rfl⟩) | (go_at_call 41; (with_reducible refine (CR.out _ k6 (fun w' d => ints_at hki (Nat.le_refl _) (B6.trans d.below))).mono ?_); rintro e w8 ⟨rfl, k8, s8⟩; have g8 := g6.dstp s8; have B8 := B6.trans s8.below) | (go_at_call 56; (with_reducible refine (HO.out _ k8).mono ?_); rintro e w9 ⟨jn, Am, cm, rfl, q9, J, R, K, b9⟩; have G := g8.at_ b9; have BB := B8.trans (b9.mono B8.size); have hjn := Nat.le_trans B8.size q9) | (go_at_call 63; first | ((with_reducible refine (F0.out _ G).mono ?_); rintro e w10 ⟨Aa, ca, rfl, R0, bf⟩; replace G := G.at_ bf; replace J := J.at_ bf; replace R := R.at_ bf; replace K := K.at_ bf; replace BB := BB.trans (bf.mono BB.size); have rN := Row1.build w10 9 [] #[] 0 rfl rfl (by omega); have bN := (Below.refl w10.heap.size w10).alloc (Nat.le_refl _) (.cells #[] 9)) | ((with_reducible first | refine (F1.out _ G).mono ?_ | refine (F2.out _ G).mono ?_); rintro e w10 ⟨Af, cf, rfl, -, bf⟩; replace G := G.at_ bf; replace J := J.at_ bf; replace R := R.at_ bf; replace K := K.at_ bf; replace BB := BB.trans (bf.mono BB.size); replace R0 := R0.at_ bf; have rN := Row1.build w10 9 [] #[] 0 rfl rfl (by omega); have bN := (Below.refl w10.heap.size w10).alloc (Nat.le_refl _) (.cells #[] 9))) | (at_builtin; first | ((first | refine wpList_append_rowsW rfl info_str (.tmp 175) (.tmp 176) 35 rfl Try.underlying35 rfl rN rfl (R0.at_ bN) (str_one _) (by simp only [List.length_nil, List.length_map]; omega) ?_ | refine wpList_append_rowsW rfl info_str (.tmp 203) (.tmp 204) 35 rfl Try.underlying35 rfl rN rfl (R0.at_ bN) (str_one _) (by simp only [List.length_nil, List.length_map]; omega) ?_); intro v5 w5 hrow5 hg5 hr5; have b5 := below_grown_own bN bN.size hg5 (.inr ⟨_, Nat.le_refl _, rfl⟩); have own5 := own_later (B := w10.heap.size) (.inr ⟨_, Nat.le_refl _, rfl⟩) bN.size hr5; rw [List.nil_append] at hrow5) | ((first | refine wpList_append_rowW rfl info_str (.tmp 177) (.tmp 179) 35 rfl Try.underlying35 rfl (hrow5.alloc _) ⟨w5.heap.size, 0, none⟩ 1 1 [strV s] rfl rfl (new_cells _ _ _ rfl _) (str_one [s]) (by simp only [List.length_map]; omega) ?_ | refine wpList_append_rowW rfl info_str (.tmp 205) (.tmp 207) 35 rfl Try.underlying35 rfl (hrow5.alloc _) ⟨w5.heap.size, 0, none⟩ 1 1 [strV s] rfl rfl (new_cells _ _ _ rfl _) (str_one [s]) (by simp only [List.length_map]; omega) ?_); intro v6 w6 hrow6 hg6 hr6; have b56 := b5.alloc b5.size (.cells #[strV s] 9); have bf := below_grown_own b56 b56.size hg6 own5; rw [Htx.out] at hrow6; obtain ⟨A6, m6, c6, rfl, hrow6⟩ := row_open' hrow6; replace G := G.at_ bf; replace J := J.at_ bf; replace R := R.at_ bf; replace K := K.at_ bf; replace BB := BB.trans (bf.mono BB.size); replace R0 := R0.at_ bf)) | (go_at_call 64; (with_reducible first | refine (E1.out _ _ _ R.reads hrow6.reads).mono ?_ | refine (E0.out _ _ _ R.reads R0.reads).mono ?_); rintro e w10 ⟨rfl, bf⟩; replace G := G.at_ bf; replace J := J.at_ bf; replace R := R.at_ bf; replace K := K.at_ bf; replace BB := BB.trans (bf.mono BB.size); replace R0 := R0.at_ bf) | (go_at_call 58; (with_reducible refine (now_any J).mono ?_); rintro e wn ⟨rfl, rfl⟩) | (go_at_call 65; (with_reducible refine (FD.out _ K).mono ?_); rintro e w13 ⟨sv, rfl, GN, ownN, bf⟩; have ownN' : sv.ownBlock = none ∨ ∃ k, w.heap.size ≤ k ∧ sv.ownBlock = some k := ownN.imp id (fun ⟨k, a, b⟩ => ⟨k, Nat.le_trans BB.size a, b⟩); replace J := J.at_ bf; replace K := K.at_ bf; replace BB := BB.trans (bf.mono BB.size)))
                go_roundw
                case rel => exact ⟨k + 1, n', 0, jn, L', S', by omega, by omega, HN.out, by rfl, rfl, hjn, J, rfl, rfl, rfl, hpl', HLl.out, HF.out, K, GN, ownN', BB⟩
                case measure => simp [intOf]; omega
            case true =>
              as_aux_lemma =>
                go_wp2_with (first | (refine wpList_load_mid rfl 97 (.tmp 67) rfl g (o + k * 5) rfl _ _ cR Try.underlying97 rfl hsz ?_; go_frame) | (go_at_call 40; first | ((with_reducible refine AR.out.mono ?_); rintro e w2 ⟨rfl, k2, s2⟩; have j2 := j0.dstp s2; have g2 := g0.dstp s2; have bA2 := bA.dstp s2 (by decide) (by decide); have B2 := B0.trans s2.below; have c0 := bA2.cellv (i := 0) rfl; have c1 := bA2.cellv (i := 1) rfl; have c3 := bA2.cellv (i := 3) rfl) | ((with_reducible first | refine (arm_off k5).mono ?_ | refine (arm_dead k5).mono ?_); rintro e w6 ⟨rfl, k6, s6⟩; have j6 := (j5).dstp s6; have g6 := (g5).dstp s6; have bA6 := (bA5).dstp s6 (by decide) (by decide); have B6 := (B5).trans s6.below; have c06 := bA6.cellv (i := 0) rfl; have c46 := bA6.cellv (i := 4) rfl)) | (go_at_call 19; (with_reducible refine (CU.out _).mono ?_); rintro e w3 ⟨rfl, rfl⟩) | (go_at_call 57; (with_reducible refine (AD.out _ k2 j2).mono ?_); rintro e w4 ⟨rfl, k5, s4⟩; have j5 := j2.dstp s4; have g5 := g2.dstp s4; have bA5 := bA2.dstp s4 (by decide) (by decide); have B5 := B2.trans s4.below) | (go_at_call 44; (with_reducible refine (dead_any k6).mono ?_); rintro e w7 ⟨rfl, rfl⟩) | (go_at_call 41; (with_reducible refine (CR.out _ k6 (fun w' d => ints_at hki (Nat.le_refl _) (B6.trans d.below))).mono ?_); rintro e w8 ⟨rfl, k8, s8⟩; have g8 := g6.dstp s8; have B8 := B6.trans s8.below) | (go_at_call 56; (with_reducible refine (HO.out _ k8).mono ?_); rintro e w9 ⟨jn, Am, cm, rfl, q9, J, R, K, b9⟩; have G := g8.at_ b9; have BB := B8.trans (b9.mono B8.size); have hjn := Nat.le_trans B8.size q9) | (go_at_call 63; first | ((with_reducible refine (F0.out _ G).mono ?_); rintro e w10 ⟨Aa, ca, rfl, R0, bf⟩; replace G := G.at_ bf; replace J := J.at_ bf; replace R := R.at_ bf; replace K := K.at_ bf; replace BB := BB.trans (bf.mono BB.size); have rN := Row1.build w10 9 [] #[] 0 rfl rfl (by omega); have bN := (Below.refl w10.heap.size w10).alloc (Nat.le_refl _) (.cells #[] 9)) | ((with_reducible first | refine (F1.out _ G).mono ?_ | refine (F2.out _ G).mono ?_); rintro e w10 ⟨Af, cf, rfl, -, bf⟩; replace G := G.at_ bf; replace J := J.at_ bf; replace R := R.at_ bf; replace K := K.at_ bf; replace BB := BB.trans (bf.mono BB.size); replace R0 := R0.at_ bf; have rN := Row1.build w10 9 [] #[] 0 rfl rfl (by omega); have bN := (Below.refl w10.heap.size w10).alloc (Nat.le_refl _) (.cells #[] 9))) | (at_builtin; first | ((first | refine wpList_append_rowsW rfl info_str (.tmp 175) (.tmp 176) 35 rfl Try.underlying35 rfl rN rfl (R0.at_ bN) (str_one _) (by simp only [List.length_nil, List.length_map]; omega) ?_ | refine wpList_append_rowsW rfl info_str (.tmp 203) (.tmp 204) 35 rfl Try.underlying35 rfl rN rfl (R0.at_ bN) (str_one _) (by simp only [List.length_nil, List.length_map]; omega) ?_); intro v5 w5 hrow5 hg5 hr5; have b5 := below_grown_own bN bN.size hg5 (.inr ⟨_, Nat.le_refl _, rfl⟩); have own5 := own_later (B := w10.heap.size) (.inr ⟨_, Nat.le_refl _, rfl⟩) bN.size hr5; rw [List.nil_append] at hrow5) | ((first | refine wpList_append_rowW rfl info_str (.tmp 177) (.tmp 179) 35 rfl Try.underlying35 rfl (hrow5.alloc _) ⟨w5.heap.size, 0, none⟩ 1 1 [strV s] rfl rfl (new_cells _ _ _ rfl _) (str_one [s]) (by simp only [List.length_map]; omega) ?_ | refine wpList_append_rowW rfl info_str (.tmp 205) (.tmp 207) 35 rfl Try.underlying35 rfl (hrow5.alloc _) ⟨w5.heap.size, 0, none⟩ 1 1 [strV s] rfl rfl (new_cells _ _ _ rfl _) (str_one [s]) (by simp only [List.length_map]; omega) ?_); intro v6 w6 hrow6 hg6 hr6; have b56 := b5.alloc b5.size (.cells #[strV s] 9); have bf := below_grown_own b56 b56.size hg6 own5; rw [Htx.out] at hrow6; obtain ⟨A6, m6, c6, rfl, hrow6⟩ := row_open' hrow6; replace G := G.at_ bf; replace J := J.at_ bf; replace R := R.at_ bf; replace K := K.at_ bf; replace BB := BB.trans (bf.mono BB.size); replace R0 := R0.at_ bf)) | (go_at_call 64; (with_reducible first | refine (E1.out _ _ _ R.reads hrow6.reads).mono ?_ | refine (E0.out _ _ _ R.reads R0.reads).mono ?_); rintro e w10 ⟨rfl, bf⟩; replace G := G.at_ bf; replace J := J.at_ bf; replace R := R.at_ bf; replace K := K.at_ bf; replace BB := BB.trans (bf.mono BB.size); replace R0 := R0.at_ bf) | (go_at_call 58; (with_reducible refine (now_any J).mono ?_); rintro e wn ⟨rfl, rfl⟩) | (go_at_call 65; (with_reducible refine (FD.out _ K).mono ?_); rintro e w13 ⟨sv, rfl, GN, ownN, bf⟩; have ownN' : sv.ownBlock = none ∨ ∃ k, w.heap.size ≤ k ∧ sv.ownBlock = some k := ownN.imp id (fun ⟨k, a, b⟩ => ⟨k, Nat.le_trans BB.size a, b⟩); replace J := J.at_ bf; replace K := K.at_ bf; replace BB := BB.trans (bf.mono BB.size)))
                go_roundw
                case rel => exact ⟨k + 1, n', 0, jn, L', S', by omega, by omega, HN.out, by rfl, rfl, hjn, J, rfl, rfl, rfl, hpl', HLl.out, HF.out, K, GN, ownN', BB⟩
                case measure => simp [intOf]; omega
          · have hTl : T.length = q := by rw [hT, List.length_append, List.length_singleton, hm1, hq]
            have HO := HO0 q hTl
            have HF := Lib.hid (show (Jr.foundL (Jr.mk r L') (Jr.next L')).flatten.length ≤ k + 1 by omega)
            have hE1 : decide (endsL T (S.flatten ++ [s])) = true := decide_eq_true (by rw [hT]; exact Jr.ends_snoc S first _ s hflat)
            have E1 := Lib.hid (fun W v1 v2 (h1 : SRead W v1 (T.map strV)) (h2 : SRead W v2 ((S.flatten ++ [s]).map strV)) => ends_to h1 h2 (by omega) hA2 hE1)
            clear HO0 hE1 hadd hcr hfit htx hupre hused hPl hcur hpre hat hflat hm1 hm0 hq hT hTl htx' hup' hu' hnx' hfl' hLl' hFl hA2 hSl huF
            generalize Jr.foundL (Jr.mk r L') (Jr.next L') = S' at *
            generalize Jr.next L' = n' at *
            generalize S.flatten ++ [s] = X2 at *
            generalize S.flatten = Al at *
            generalize Jr.files (pre ++ [(⟨n, b0 ++ C.wrap s, b0.length⟩ : Jr.Sg)]) = Fs at *
            as_aux_lemma =>
              go_wp2_with (first | (refine wpList_load_mid rfl 97 (.tmp 67) rfl g (o + k * 5) rfl _ _ cR Try.underlying97 rfl hsz ?_; go_frame) | (go_at_call 40; first | ((with_reducible refine AR.out.mono ?_); rintro e w2 ⟨rfl, k2, s2⟩; have j2 := j0.dstp s2; have g2 := g0.dstp s2; have bA2 := bA.dstp s2 (by decide) (by decide); have B2 := B0.trans s2.below; have c0 := bA2.cellv (i := 0) rfl; have c1 := bA2.cellv (i := 1) rfl; have c3 := bA2.cellv (i := 3) rfl) | ((with_reducible first | refine (arm_off k5).mono ?_ | refine (arm_dead k5).mono ?_); rintro e w6 ⟨rfl, k6, s6⟩; have j6 := (j5).dstp s6; have g6 := (g5).dstp s6; have bA6 := (bA5).dstp s6 (by decide) (by decide); have B6 := (B5).trans s6.below; have c06 := bA6.cellv (i := 0) rfl; have c46 := bA6.cellv (i := 4) rfl)) | (go_at_call 19; (with_reducible refine (CU.out _).mono ?_); rintro e w3 ⟨rfl, rfl⟩) | (go_at_call 57; (with_reducible refine (AD.out _ k2 j2).mono ?_); rintro e w4 ⟨rfl, k5, s4⟩; have j5 := j2.dstp s4; have g5 := g2.dstp s4; have bA5 := bA2.dstp s4 (by decide) (by decide); have B5 := B2.trans s4.below) | (go_at_call 44; (with_reducible refine (dead_any k6).mono ?_); rintro e w7 ⟨rfl, rfl⟩) | (go_at_call 41; (with_reducible refine (CR.out _ k6 (fun w' d => ints_at hki (Nat.le_refl _) (B6.trans d.below))).mono ?_); rintro e w8 ⟨rfl, k8, s8⟩; have g8 := g6.dstp s8; have B8 := B6.trans s8.below) | (go_at_call 56; (with_reducible refine (HO.out _ k8).mono ?_); rintro e w9 ⟨jn, Am, cm, rfl, q9, J, R, K, b9⟩; have G := g8.at_ b9; have BB := B8.trans (b9.mono B8.size); have hjn := Nat.le_trans B8.size q9) | (go_at_call 63; first | ((with_reducible refine (F0.out _ G).mono ?_); rintro e w10 ⟨Aa, ca, rfl, R0, bf⟩; replace G := G.at_ bf; replace J := J.at_ bf; replace R := R.at_ bf; replace K := K.at_ bf; replace BB := BB.trans (bf.mono BB.size); have rN := Row1.build w10 9 [] #[] 0 rfl rfl (by omega); have bN := (Below.refl w10.heap.size w10).alloc (Nat.le_refl _) (.cells #[] 9)) | ((with_reducible first | refine (F1.out _ G).mono ?_ | refine (F2.out _ G).mono ?_); rintro e w10 ⟨Af, cf, rfl, -, bf⟩; replace G := G.at_ bf; replace J := J.at_ bf; replace R := R.at_ bf; replace K := K.at_ bf; replace BB := BB.trans (bf.mono BB.size); replace R0 := R0.at_ bf; have rN := Row1.build w10 9 [] #[] 0 rfl rfl (by omega); have bN := (Below.refl w10.heap.size w10).alloc (Nat.le_refl _) (.cells #[] 9))) | (at_builtin; first | ((first | refine wpList_append_rowsW rfl info_str (.tmp 175) (.tmp 176) 35 rfl Try.underlying35 rfl rN rfl (R0.at_ bN) (str_one _) (by simp only [List.length_nil, List.length_map]; omega) ?_ | refine wpList_append_rowsW rfl info_str (.tmp 203) (.tmp 204) 35 rfl Try.underlying35 rfl rN rfl (R0.at_ bN) (str_one _) (by simp only [List.length_nil, List.length_map]; omega) ?_); intro v5 w5 hrow5 hg5 hr5; have b5 := below_grown_own bN bN.size hg5 (.inr ⟨_, Nat.le_refl _, rfl⟩); have own5 := own_later (B := w10.heap.size) (.inr ⟨_, Nat.le_refl _, rfl⟩) bN.size hr5; rw [List.nil_append] at hrow5) | ((first | refine wpList_append_rowW rfl info_str (.tmp 177) (.tmp 179) 35 rfl Try.underlying35 rfl (hrow5.alloc _) ⟨w5.heap.size, 0, none⟩ 1 1 [strV s] rfl rfl (new_cells _ _ _ rfl _) (str_one [s]) (by simp only [List.length_map]; omega) ?_ | refine wpList_append_rowW rfl info_str (.tmp 205) (.tmp 207) 35 rfl Try.underlying35 rfl (hrow5.alloc _) ⟨w5.heap.size, 0, none⟩ 1 1 [strV s] rfl rfl (new_cells _ _ _ rfl _) (str_one [s]) (by simp only [List.length_map]; omega) ?_); intro v6 w6 hrow6 hg6 hr6; have b56 := b5.alloc b5.size (.cells #[strV s] 9); have bf := below_grown_own b56 b56.size hg6 own5; rw [Htx.out] at hrow6; obtain ⟨A6, m6, c6, rfl, hrow6⟩ := row_open' hrow6; replace G := G.at_ bf; replace J := J.at_ bf; replace R := R.at_ bf; replace K := K.at_ bf; replace BB := BB.trans (bf.mono BB.size); replace R0 := R0.at_ bf)) | (go_at_call 64; (with_reducible first | refine (E1.out _ _ _ R.reads hrow6.reads).mono ?_ | refine (E0.out _ _ _ R.reads R0.reads).mono ?_); rintro e w10 ⟨rfl, bf⟩; replace G := G.at_ bf; replace J := J.at_ bf; replace R := R.at_ bf; replace K := K.at_ bf; replace BB := BB.trans (bf.mono BB.size); replace R0 := R0.at_ bf) | (go_at_call 58; (with_reducible refine (now_any J).mono ?_); rintro e wn ⟨rfl, rfl⟩) | (go_at_call 65; (with_reducible refine (FD.out _ K).mono ?_); rintro e w13 ⟨sv, rfl, GN, ownN, bf⟩; have ownN' : sv.ownBlock = none ∨ ∃ k, w.heap.size ≤ k ∧ sv.ownBlock = some k := ownN.imp id (fun ⟨k, a, b⟩ => ⟨k, Nat.le_trans BB.size a, b⟩); replace J := J.at_ bf; replace K := K.at_ bf; replace BB := BB.trans (bf.mono BB.size)))
              go_roundw
              case rel => exact ⟨k + 1, n', 0, jn, L', S', by omega, by omega, HN.out, by rfl, rfl, hjn, J, rfl, rfl, rfl, hpl', HLl.out, HF.out, K, GN, ownN', BB⟩
              case measure => simp [intOf]; omega
        -->A
      have e1 : (kind == 1) = false := beq_eq_false_iff_ne.2 h1
      by_cases h2 : kind = 2
      --<F
      · subst h2
        have TU := Lib.hid (fun W (hj : JrAt W jb p n) => jturn_to (z := ((n + 1 : Nat) : Int)) hj (by omega) rfl rfl)
        have e2 : (((n + 1 : Nat) : Int) != (S.length : Int)) = false := by rw [hPl.len]; simp
        have e2' : ((n + 1) != S.length) = false := by rw [hPl.len]; simp
        have hS9 : S.length ≤ 100 := by rw [hPl.len]; omega
        have hSS : Hid ((S ++ [[]]).flatten.length ≤ k + 1) := Lib.hid (by rw [List.flatten_append, List.length_append]; show S.flatten.length + 0 ≤ _; omega)
        as_aux_lemma =>
          go_wp2_with (first | (refine wpList_load_mid rfl 97 (.tmp 67) rfl g (o + k * 5) rfl _ _ cR Try.underlying97 rfl hsz ?_; go_frame) | (go_at_call 40; first | ((with_reducible refine AR.out.mono ?_); rintro e w2 ⟨rfl, k2, s2⟩; have j2 := j0.dstp s2; have g2 := g0.dstp s2; have bA2 := bA.dstp s2 (by decide) (by decide); have B2 := B0.trans s2.below; have c0 := bA2.cellv (i := 0) rfl; have c1 := bA2.cellv (i := 1) rfl; have c3 := bA2.cellv (i := 3) rfl) | ((with_reducible first | refine (arm_off k5).mono ?_ | refine (arm_dead k5).mono ?_); rintro e w6 ⟨rfl, k6, s6⟩; have j6 := (j5).dstp s6; have g6 := (gr5).dstp s6; have bA6 := (bA5).dstp s6 (by decide) (by decide); have B6 := (B5).trans s6.below; have c06 := bA6.cellv (i := 0) rfl; have c46 := bA6.cellv (i := 4) rfl)) | (go_at_call 19; (with_reducible refine (CU.out _).mono ?_); rintro e w3 ⟨rfl, rfl⟩) | (go_at_call 60; (with_reducible refine (TU.out _ j2).mono ?_); rintro e w3 ⟨rfl, j3, o3⟩; have k3 := k2.turned j2 o3; have g3 := g2.onlyBlk j2 ⟨by decide, by decide⟩ o3; have bA3 := Blk.off bA2 o3 hjne.out; have B3 := o3.below B2 hjb) | (at_builtin; obtain ⟨us, g4, g5, g6⟩ := g3; refine wpList_append_row rfl info_rows (.tmp 117) (.tmp 119) 95 rfl Try.underlying95 rfl ((g4.alloc _).alloc _) ⟨w3.heap.size + 1, 0, none⟩ 1 1 [.slice (some ⟨w3.heap.size, 0, none⟩) 0 0] rfl rfl (by have := new_cells (w3.alloc (.cells #[] 9)) [.slice (some ⟨w3.heap.size, 0, none⟩) 0 0] #[.slice (some ⟨w3.heap.size, 0, none⟩) 0 0] rfl 35; rw [World.size_alloc] at this; exact this) (by simp [Value.oneCell']) (by omega) ?_; intro v5 w5 hrow5 hg5 hr5; have ba := ((Below.refl w3.heap.size w3).alloc (Nat.le_refl _) (.cells #[] 9)).alloc (by rw [World.size_alloc]; omega) (.cells #[.slice (some ⟨w3.heap.size, 0, none⟩) 0 0] 35); have B4 := B3.trans (ba.mono B3.size); have k5 := (k3.at_ ba).grown (g4.at_ ba) (by decide) hg5; have j5 : JrAt w5 jb p (n + 1) := Blk.grownRow (j3.at_ ba) (g4.at_ ba) (by decide) hg5; have bA5 := Blk.grownRow (bA3.at_ ba) (g4.at_ ba) (by decide) hg5; have B5 := below_grown_own B4 B4.size hg5 hown; have hown5 := own_later hown B4.size hr5; have rnil : Row1 ((w3.alloc (.cells #[] 9)).alloc (.cells #[.slice (some ⟨w3.heap.size, 0, none⟩) 0 0] 35)) 9 (.slice (some ⟨w3.heap.size, 0, none⟩) 0 0) (([] : List (List UInt8)).map strV) := (Row1.build w3 9 [] #[] 0 rfl rfl (by omega)).alloc _; have gr5 := Grid.push (l := []) (g4.at_ ba) g5 (fun i u l a b => (g6 i u l a b).at_ ba) rnil hrow5 hg5) | (go_at_call 44; (with_reducible refine (dead_any k6).mono ?_); rintro e w7 ⟨rfl, rfl⟩))
          go_roundw
          case rel => exact ⟨k + 1, n + 1, first, jb, L, S ++ [[]], by omega, by omega, by omega, by rfl, rfl, hjb, j6, rfl, rfl, rfl, hPl.turned, by omega, hSS.out, k6, g6, hown5, B6⟩
          case measure => simp [intOf]; omega
      -->F
      have e2 : (kind == 2) = false := beq_eq_false_iff_ne.2 h2
      by_cases h3 : kind = 3
      · subst h3
        obtain ⟨jd, f', htk, ⟨hd1, hf', hdr⟩ | hdr⟩ := Jr.dropK_plays (n := n) (N := N) (r := (r : Int)) L f hPl.up hPl.le hf1
        --<G
        · obtain ⟨low, hlow⟩ : ∃ low : Nat, (low : Int) = max (first : Int) (min N (n : Int)) := ⟨(max (first : Int) (min N (n : Int))).toNat, by omega⟩
          have hPl' := hPl.dropped (j := jd) (low := low) (by omega) (by have := hPl.fn; omega) (fun y hy => by have := htk y hy; omega) (fun y hy => by
            have h5 := hPl.le y (List.mem_of_mem_drop hy)
            have h6 := hPl.ge y (List.mem_of_mem_drop hy)
            rcases hd1 y hy with h | h <;> omega)
          have hup := hPl.up
          have DR := Lib.hid (fun W (h : DkAt w.heap.size W p ⟨r, f, false, Jr.files L⟩) (hj : JrAt W jb p n) => jdrop_to (z := 0) h hj rfl rfl hup N hdr rfl)
          have hw8 : IntKind.i64.wrap ((S.length : Int) - 1) = (n : Int) := by rw [hPl.len]; rw [IntWalk.i64_in _ (by omega)]; omega
          have hmx : max (first : Int) (min N (n : Int)) = (low : Int) := hlow.symm
          have HL := Lib.hid (show (L.drop jd).length ≤ k + 1 by rw [List.length_drop]; omega)
          clear hdr hd1 htk hlow hPl hup
          generalize L.drop jd = L' at *
          as_aux_lemma =>
            go_wp2_with (first | (refine wpList_load_mid rfl 97 (.tmp 67) rfl g (o + k * 5) rfl _ _ cR Try.underlying97 rfl hsz ?_; go_frame) | (go_at_call 40; first | ((with_reducible refine AR.out.mono ?_); rintro e w2 ⟨rfl, k2, s2⟩; have j2 := j0.dstp s2; have g2 := g0.dstp s2; have bA2 := bA.dstp s2 (by decide) (by decide); have B2 := B0.trans s2.below; have c0 := bA2.cellv (i := 0) rfl; have c1 := bA2.cellv (i := 1) rfl; have c3 := bA2.cellv (i := 3) rfl) | ((with_reducible first | refine (arm_off k5).mono ?_ | refine (arm_dead k5).mono ?_); rintro e w6 ⟨rfl, k6, s6⟩; have j6 := (j5).dstp s6; have g6 := (g5).dstp s6; have bA6 := (bA5).dstp s6 (by decide) (by decide); have B6 := (B5).trans s6.below; have c06 := bA6.cellv (i := 0) rfl; have c46 := bA6.cellv (i := 4) rfl)) | (go_at_call 19; (with_reducible refine (CU.out _).mono ?_); rintro e w3 ⟨rfl, rfl⟩) | (go_at_call 62; (with_reducible refine (DR.out _ k2 j2).mono ?_); rintro e w4 ⟨rfl, k5, s4⟩; have j5 := j2.dstp s4; have g5 := g2.dstp s4; have bA5 := bA2.dstp s4 (by decide) (by decide); have B5 := B2.trans s4.below; have c15 := bA5.cellv (i := 1) rfl) | (go_at_call 44; (with_reducible refine (dead_any k6).mono ?_); rintro e w7 ⟨rfl, rfl⟩))
            go_roundw
            case rel => exact ⟨k + 1, n, low, jb, L', S, by omega, by omega, by omega, by rfl, rfl, hjb, j6, rfl, rfl, rfl, hPl', HL.out, by omega, k6, g6, hown, B6⟩
            case measure => simp [intOf]; omega
        -->G
        --<B
        · obtain ⟨low, hlow⟩ : ∃ low : Nat, (low : Int) = max (first : Int) (min N (n : Int)) := ⟨(max (first : Int) (min N (n : Int))).toNat, by omega⟩
          obtain ⟨L', hL'⟩ : ∃ L', L' = L.drop jd := ⟨_, rfl⟩
          obtain ⟨hcr, ⟨hup', hu', -, hnx', hpl', hfl'⟩, hen, hlo, hfi⟩ := hPl.dropDies (by omega) htk hlow ks f' true
          have hLl' : (L.drop jd).length ≤ L.length := by rw [List.length_drop]; omega
          have hup := hPl.up
          have hln : low ≤ n := by have := hPl.fn; omega
          rw [← hL'] at hcr hup' hu' hnx' hpl' hfl' hen hlo hfi hdr hLl'
          have DR := Lib.hid (fun W (h : DkAt w.heap.size W p ⟨r, f, false, Jr.files L⟩) (hj : JrAt W jb p n) => jdrop_to (z := 10) h hj rfl rfl hup N hdr rfl)
          have CR := Lib.hid (fun W (h : DkAt w.heap.size W p ⟨r, f', true, Jr.files L'⟩) hk => crash_to h ks (.slice Ak ks.length ck) hkl hkw hk (by show D.used (Jr.files L') ≤ _; have := hPl.used; omega) hcr)
          have hFl : (S.drop first).flatten.length ≤ S.flatten.length := by
            conv => rhs; rw [← List.take_append_drop first S, List.flatten_append, List.length_append]
            omega
          have hfst := hPl.fn
          have hSl := hPl.len
          have huL := hPl.used
          have FD := Lib.hid (fun W (h : DkAt w.heap.size W p (Jr.mk r L')) => found_any h (by show D.used (Jr.files L') ≤ _; omega) (Jr.next L') (by omega))
          have HN := Lib.hid (show Jr.next L' ≤ k + 1 by omega)
          have HLl := Lib.hid (show L'.length ≤ k + 1 by omega)
          obtain ⟨T, hT⟩ : ∃ T, T = Jr.texts L' := ⟨_, rfl⟩
          rw [← hT] at hen hlo hfi hfl'
          obtain ⟨tl, htl⟩ : ∃ m, T.length = m := ⟨_, rfl⟩
          obtain ⟨m1, hm1⟩ : ∃ m, (S.drop first).flatten.length = m := ⟨_, rfl⟩
          obtain ⟨m2, hm2⟩ : ∃ m, (S.drop low).flatten.length = m := ⟨_, rfl⟩
          obtain ⟨m0, hm0⟩ : ∃ m, S.flatten.length = m := ⟨_, rfl⟩
          have HO := Lib.hid (fun W (h : DkAt w.heap.size W p (Jr.mk r L')) => jopen_to h rfl rfl hup' (by show D.used (Jr.files L') ≤ _; omega) rfl hT.symm htl)
          have HF := Lib.hid (show (Jr.foundL (Jr.mk r L') (Jr.next L')).flatten.length ≤ k + 1 by omega)
          have F0 := Lib.hid (fun W (G : Grid W (.slice A9 S.length c9) S) => flat_to (z := 0) G (by omega) (by omega) 0 (by omega) rfl (X := S.flatten) (by rw [List.drop_zero]) hm0)
          have F1 := Lib.hid (fun W (G : Grid W (.slice A9 S.length c9) S) => flat_to (z := (first : Int)) G (by omega) (by omega) first (by omega) rfl rfl hm1)
          have F2 := Lib.hid (fun W (G : Grid W (.slice A9 S.length c9) S) => flat_to (z := (low : Int)) G (by omega) (by omega) low (by omega) rfl rfl hm2)
          have hE0 : decide (endsL T S.flatten) = true := decide_eq_true hen
          have E0 := Lib.hid (fun W v1 v2 (h1 : SRead W v1 (T.map strV)) (h2 : SRead W v2 (S.flatten.map strV)) => ends_to h1 h2 (by omega) (by omega) hE0)
          have dl : decide ((tl : Int) < (m2 : Int)) = false := decide_eq_false (by omega)
          have dl' : decide (tl < m2) = false := decide_eq_false (by omega)
          have df : decide ((m1 : Int) < (tl : Int)) = false := decide_eq_false (by omega)
          have df' : decide (m1 < tl) = false := decide_eq_false (by omega)
          have hw8 : IntKind.i64.wrap ((S.length : Int) - 1) = (n : Int) := by rw [IntWalk.i64_in _ (by omega)]; omega
          have hmx : max (first : Int) (min N (n : Int)) = (low : Int) := hlow.symm
          clear hE0 hcr hPl hL' hLl' hup' hu' hnx' hfl' hen hlo hfi hT htl hm0 hm1 hm2 hFl huL hSl hdr htk hlow hup hln
          generalize Jr.foundL (Jr.mk r L') (Jr.next L') = S' at *
          generalize Jr.next L' = n' at *
          generalize S.flatten = Al at *
          as_aux_lemma =>
            go_wp2_with (first | (refine wpList_load_mid rfl 97 (.tmp 67) rfl g (o + k * 5) rfl _ _ cR Try.underlying97 rfl hsz ?_; go_frame) | (go_at_call 40; first | ((with_reducible refine AR.out.mono ?_); rintro e w2 ⟨rfl, k2, s2⟩; have j2 := j0.dstp s2; have g2 := g0.dstp s2; have bA2 := bA.dstp s2 (by decide) (by decide); have B2 := B0.trans s2.below; have c0 := bA2.cellv (i := 0) rfl; have c1 := bA2.cellv (i := 1) rfl; have c3 := bA2.cellv (i := 3) rfl) | ((with_reducible first | refine (arm_off k5).mono ?_ | refine (arm_dead k5).mono ?_); rintro e w6 ⟨rfl, k6, s6⟩; have j6 := (j5).dstp s6; have g6 := (g5).dstp s6; have bA6 := (bA5).dstp s6 (by decide) (by decide); have B6 := (B5).trans s6.below; have c06 := bA6.cellv (i := 0) rfl; have c46 := bA6.cellv (i := 4) rfl)) | (go_at_call 19; (with_reducible refine (CU.out _).mono ?_); rintro e w3 ⟨rfl, rfl⟩) | (go_at_call 62; (with_reducible refine (DR.out _ k2 j2).mono ?_); rintro e w4 ⟨rfl, k5, s4⟩; have j5 := j2.dstp s4; have g5 := g2.dstp s4; have bA5 := bA2.dstp s4 (by decide) (by decide); have B5 := B2.trans s4.below; have c15 := bA5.cellv (i := 1) rfl) | (go_at_call 44; (with_reducible refine (dead_any k6).mono ?_); rintro e w7 ⟨rfl, rfl⟩) | (go_at_call 41; (with_reducible refine (CR.out _ k6 (fun w' d => ints_at hki (Nat.le_refl _) (B6.trans d.below))).mono ?_); rintro e w8 ⟨rfl, k8, s8⟩; have g8 := g6.dstp s8; have B8 := B6.trans s8.below) | (go_at_call 56; (with_reducible refine (HO.out _ k8).mono ?_); rintro e w9 ⟨jn, Am, cm, rfl, q9, J, R, K, b9⟩; have G := g8.at_ b9; have BB := B8.trans (b9.mono B8.size); have hjn := Nat.le_trans B8.size q9) | (go_at_call 63; first | ((with_reducible refine (F0.out _ G).mono ?_); rintro e w10 ⟨Aa, ca, rfl, R0, bf⟩; replace G := G.at_ bf; replace J := J.at_ bf; replace R := R.at_ bf; replace K := K.at_ bf; replace BB := BB.trans (bf.mono BB.size); have rN := Row1.build w10 9 [] #[] 0 rfl rfl (by omega); have bN := (Below.refl w10.heap.size w10).alloc (Nat.le_refl _) (.cells #[] 9)) | ((with_reducible first | refine (F1.out _ G).mono ?_ | refine (F2.out _ G).mono ?_); rintro e w10 ⟨Af, cf, rfl, -, bf⟩; replace G := G.at_ bf; replace J := J.at_ bf; replace R := R.at_ bf; replace K := K.at_ bf; replace BB := BB.trans (bf.mono BB.size); replace R0 := R0.at_ bf; have rN := Row1.build w10 9 [] #[] 0 rfl rfl (by omega); have bN := (Below.refl w10.heap.size w10).alloc (Nat.le_refl _) (.cells #[] 9))) | (go_at_call 64; (with_reducible refine (E0.out _ _ _ R.reads R0.reads).mono ?_); rintro e w10 ⟨rfl, bf⟩; replace G := G.at_ bf; replace J := J.at_ bf; replace R := R.at_ bf; replace K := K.at_ bf; replace BB := BB.trans (bf.mono BB.size); replace R0 := R0.at_ bf) | (go_at_call 58; (with_reducible refine (now_any J).mono ?_); rintro e wn ⟨rfl, rfl⟩) | (go_at_call 65; (with_reducible refine (FD.out _ K).mono ?_); rintro e w13 ⟨sv, rfl, GN, ownN, bf⟩; have ownN' : sv.ownBlock = none ∨ ∃ k, w.heap.size ≤ k ∧ sv.ownBlock = some k := ownN.imp id (fun ⟨k, a, b⟩ => ⟨k, Nat.le_trans BB.size a, b⟩); replace J := J.at_ bf; replace K := K.at_ bf; replace BB := BB.trans (bf.mono BB.size)))
            go_roundw
            case rel => exact ⟨k + 1, n', 0, jn, L', S', by omega, by omega, HN.out, by rfl, rfl, hjn, J, rfl, rfl, rfl, hpl', HLl.out, HF.out, K, GN, ownN', BB⟩
            case measure => simp [intOf]; omega
        -->B
      have e3 : (kind == 3) = false := beq_eq_false_iff_ne.2 h3
      by_cases h4 : kind = 4
      --<C
      · subst h4
        obtain ⟨L', hL'⟩ : ∃ L', L' = L := ⟨_, rfl⟩
        obtain ⟨hcr, ⟨hup', hu', -, hnx', hpl', hfl'⟩, hen, hlo, hfi⟩ := hPl.dropDies (j := 0) (low := first) (N := (first : Int)) (by omega) (by simp) (by have := hPl.fn; omega) ks (-1) false
        have hLl' : L'.length ≤ L.length := by rw [hL']; exact Nat.le_refl _
        rw [List.drop_zero, ← hL'] at hcr hup' hu' hnx' hpl' hfl' hen hlo hfi
        have CR := Lib.hid (fun W (h : DkAt w.heap.size W p ⟨r, -1, false, Jr.files L'⟩) hk => crash_to h ks (.slice Ak ks.length ck) hkl hkw hk (by show D.used (Jr.files L') ≤ _; have := hPl.used; omega) hcr)
        have hFl : (S.drop first).flatten.length ≤ S.flatten.length := by
          conv => rhs; rw [← List.take_append_drop first S, List.flatten_append, List.length_append]
          omega
        have hfst := hPl.fn
        have hSl := hPl.len
        have huL := hPl.used
        have FD := Lib.hid (fun W (h : DkAt w.heap.size W p (Jr.mk r L')) => found_any h (by show D.used (Jr.files L') ≤ _; omega) (Jr.next L') (by omega))
        have HN := Lib.hid (show Jr.next L' ≤ k + 1 by omega)
        have HLl := Lib.hid (show L'.length ≤ k + 1 by omega)
        obtain ⟨T, hT⟩ : ∃ T, T = Jr.texts L' := ⟨_, rfl⟩
        rw [← hT] at hen hlo hfi hfl'
        obtain ⟨tl, htl⟩ : ∃ m, T.length = m := ⟨_, rfl⟩
        obtain ⟨m1, hm1⟩ : ∃ m, (S.drop first).flatten.length = m := ⟨_, rfl⟩
        obtain ⟨m2, hm2⟩ : ∃ m, (S.drop first).flatten.length = m := ⟨_, rfl⟩
        obtain ⟨m0, hm0⟩ : ∃ m, S.flatten.length = m := ⟨_, rfl⟩
        have HO := Lib.hid (fun W (h : DkAt w.heap.size W p (Jr.mk r L')) => jopen_to h rfl rfl hup' (by show D.used (Jr.files L') ≤ _; omega) rfl hT.symm htl)
        have HF := Lib.hid (show (Jr.foundL (Jr.mk r L') (Jr.next L')).flatten.length ≤ k + 1 by omega)
        have F0 := Lib.hid (fun W (G : Grid W (.slice A9 S.length c9) S) => flat_to (z := 0) G (by omega) (by omega) 0 (by omega) rfl (X := S.flatten) (by rw [List.drop_zero]) hm0)
        have F1 := Lib.hid (fun W (G : Grid W (.slice A9 S.length c9) S) => flat_to (z := (first : Int)) G (by omega) (by omega) first (by omega) rfl rfl hm1)
        have F2 := Lib.hid (fun W (G : Grid W (.slice A9 S.length c9) S) => flat_to (z := (first : Int)) G (by omega) (by omega) first (by omega) rfl rfl hm2)
        have hE0 : decide (endsL T S.flatten) = true := decide_eq_true hen
        have E0 := Lib.hid (fun W v1 v2 (h1 : SRead W v1 (T.map strV)) (h2 : SRead W v2 (S.flatten.map strV)) => ends_to h1 h2 (by omega) (by omega) hE0)
        obtain rfl : m2 = m1 := by omega
        have dl : decide ((tl : Int) < (m2 : Int)) = false := decide_eq_false (by omega)
        have dl' : decide (tl < m2) = false := decide_eq_false (by omega)
        have df : decide ((m2 : Int) < (tl : Int)) = false := decide_eq_false (by omega)
        have df' : decide (m2 < tl) = false := decide_eq_false (by omega)
        rw [← hL'] at AR
        clear hE0 hcr hPl hL' hLl' hup' hu' hnx' hfl' hen hlo hfi hT htl hm0 hm1 hm2 hFl huL hSl F2
        generalize Jr.foundL (Jr.mk r L') (Jr.next L') = S' at *
        generalize Jr.next L' = n' at *
        generalize S.flatten = Al at *
        as_aux_lemma =>
          go_wp2_with (first | (refine wpList_load_mid rfl 97 (.tmp 67) rfl g (o + k * 5) rfl _ _ cR Try.underlying97 rfl hsz ?_; go_frame) | (go_at_call 40; first | ((with_reducible refine AR.out.mono ?_); rintro e w2 ⟨rfl, k2, s2⟩; have j2 := j0.dstp s2; have g2 := g0.dstp s2; have bA2 := bA.dstp s2 (by decide) (by decide); have B2 := B0.trans s2.below; have c0 := bA2.cellv (i := 0) rfl; have c1 := bA2.cellv (i := 1) rfl; have c3 := bA2.cellv (i := 3) rfl) | ((with_reducible first | refine (arm_off k2).mono ?_ | refine (arm_dead k2).mono ?_); rintro e w6 ⟨rfl, k6, s6⟩; have j6 := (j2).dstp s6; have g6 := (g2).dstp s6; have bA6 := (bA2).dstp s6 (by decide) (by decide); have B6 := (B2).trans s6.below; have c06 := bA6.cellv (i := 0) rfl; have c46 := bA6.cellv (i := 4) rfl)) | (go_at_call 19; (with_reducible refine (CU.out _).mono ?_); rintro e w3 ⟨rfl, rfl⟩) | (go_at_call 44; (with_reducible refine (dead_any k6).mono ?_); rintro e w7 ⟨rfl, rfl⟩) | (go_at_call 41; (with_reducible refine (CR.out _ k6 (fun w' d => ints_at hki (Nat.le_refl _) (B6.trans d.below))).mono ?_); rintro e w8 ⟨rfl, k8, s8⟩; have g8 := g6.dstp s8; have B8 := B6.trans s8.below) | (go_at_call 56; (with_reducible refine (HO.out _ k8).mono ?_); rintro e w9 ⟨jn, Am, cm, rfl, q9, J, R, K, b9⟩; have G := g8.at_ b9; have BB := B8.trans (b9.mono B8.size); have hjn := Nat.le_trans B8.size q9) | (go_at_call 63; first | ((with_reducible refine (F0.out _ G).mono ?_); rintro e w10 ⟨Aa, ca, rfl, R0, bf⟩; replace G := G.at_ bf; replace J := J.at_ bf; replace R := R.at_ bf; replace K := K.at_ bf; replace BB := BB.trans (bf.mono BB.size); have rN := Row1.build w10 9 [] #[] 0 rfl rfl (by omega); have bN := (Below.refl w10.heap.size w10).alloc (Nat.le_refl _) (.cells #[] 9)) | ((with_reducible first | refine (F1.out _ G).mono ?_ | refine (F2.out _ G).mono ?_); rintro e w10 ⟨Af, cf, rfl, -, bf⟩; replace G := G.at_ bf; replace J := J.at_ bf; replace R := R.at_ bf; replace K := K.at_ bf; replace BB := BB.trans (bf.mono BB.size); replace R0 := R0.at_ bf; have rN := Row1.build w10 9 [] #[] 0 rfl rfl (by omega); have bN := (Below.refl w10.heap.size w10).alloc (Nat.le_refl _) (.cells #[] 9))) | (go_at_call 64; (with_reducible refine (E0.out _ _ _ R.reads R0.reads).mono ?_); rintro e w10 ⟨rfl, bf⟩; replace G := G.at_ bf; replace J := J.at_ bf; replace R := R.at_ bf; replace K := K.at_ bf; replace BB := BB.trans (bf.mono BB.size); replace R0 := R0.at_ bf) | (go_at_call 58; (with_reducible refine (now_any J).mono ?_); rintro e wn ⟨rfl, rfl⟩) | (go_at_call 65; (with_reducible refine (FD.out _ K).mono ?_); rintro e w13 ⟨sv, rfl, GN, ownN, bf⟩; have ownN' : sv.ownBlock = none ∨ ∃ k, w.heap.size ≤ k ∧ sv.ownBlock = some k := ownN.imp id (fun ⟨k, a, b⟩ => ⟨k, Nat.le_trans BB.size a, b⟩); replace J := J.at_ bf; replace K := K.at_ bf; replace BB := BB.trans (bf.mono BB.size)))
          go_roundw
          case rel => exact ⟨k + 1, n', 0, jn, L', S', by omega, by omega, HN.out, by rfl, rfl, hjn, J, rfl, rfl, rfl, hpl', HLl.out, HF.out, K, GN, ownN', BB⟩
          case measure => simp [intOf]; omega
      -->C
      have e4 : (kind != 4) = true := by rw [bne_iff_ne]; exact h4
      as_aux_lemma =>
        go_wp2_with (first | (refine wpList_load_mid rfl 97 (.tmp 67) rfl g (o + k * 5) rfl _ _ cR Try.underlying97 rfl hsz ?_; go_frame) | (go_at_call 40; first | ((with_reducible refine AR.out.mono ?_); rintro e w2 ⟨rfl, k2, s2⟩; have j2 := j0.dstp s2; have g2 := g0.dstp s2; have bA2 := bA.dstp s2 (by decide) (by decide); have B2 := B0.trans s2.below; have c0 := bA2.cellv (i := 0) rfl; have c1 := bA2.cellv (i := 1) rfl; have c3 := bA2.cellv (i := 3) rfl) | ((with_reducible first | refine (arm_off k2).mono ?_ | refine (arm_dead k2).mono ?_); rintro e w6 ⟨rfl, k6, s6⟩; have j6 := (j2).dstp s6; have g6 := (g2).dstp s6; have bA6 := (bA2).dstp s6 (by decide) (by decide); have B6 := (B2).trans s6.below; have c06 := bA6.cellv (i := 0) rfl; have c46 := bA6.cellv (i := 4) rfl)) | (go_at_call 19; (with_reducible refine (CU.out _).mono ?_); rintro e w3 ⟨rfl, rfl⟩) | (go_at_call 44; (with_reducible refine (dead_any k6).mono ?_); rintro e w7 ⟨rfl, rfl⟩))
        go_roundw
        case rel => exact ⟨k + 1, n, first, jb, L, S, by omega, by omega, by omega, by rfl, rfl, hjb, j6, rfl, rfl, rfl, hPl, by omega, by omega, k6, g6, hown, B6⟩
        case measure => simp [intOf]; omega
    · have hsplit : (decide ((k : Int) < (al.length : Int)) = false ∧ decide (k < al.length) = false) ∨ (decide ((k : Int) < (al.length : Int)) = true ∧ decide (k < al.length) = true ∧ decide ((k : Int) < 40) = false ∧ decide (k < 40) = false) := by
        by_cases h9 : k < al.length
        · exact .inr ⟨decide_eq_true (by omega), decide_eq_true (by omega), decide_eq_false (by omega), decide_eq_false (by omega)⟩
        · exact .inl ⟨decide_eq_false (by omega), decide_eq_false (by omega)⟩
      rcases hsplit with ⟨h1, h2⟩ | ⟨h1, h2, h3, h4⟩
      · go_wp2
        go_ret
        exact ⟨rfl, hB⟩
      · go_wp2
        go_ret
        exact ⟨rfl, hB⟩
end Go.Proofs.Ytknkbioalohofaa
