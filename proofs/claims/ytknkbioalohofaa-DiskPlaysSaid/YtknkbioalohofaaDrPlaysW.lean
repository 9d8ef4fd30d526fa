/- The walk of DiskPlays. -/
import Derived.Test.YtknkbioalohofaaDrK
namespace Go.Proofs.Ytknkbioalohofaa
open Go.RowKit Go.Maps Go.ChangeMaps Go.MapKept Go.WideMaps Go.ChangeShapes Go.WideShapes Go.ChangeAt

theorem newS (w : World) (o : Obj) (l : List Value) (cs : Array Value) (hc : cs = l.toArray) (t : TypeId) : ∀ (j : Nat) (u : Value), l[j]? = some u → ((w.alloc o).alloc (.cells cs t)).cell? ((⟨w.heap.size + 1, 0, none⟩ : Addr).add j) = some u := by
  have := new_cells (w.alloc o) l cs hc t
  rw [World.size_alloc] at this
  exact this
theorem DkAt.few {B : Nat} {w : World} {p : Nat} {M : D.Dk} (h : DkAt B w p M) : M.files.length ≤ 4096 := by
  obtain ⟨mb, Es, h⟩ := h
  exact h.few
set_option maxRecDepth 100000 in
set_option maxHeartbeats 16000000 in
theorem dplays_walk (room0 : Int) (hr : -9223372036854775808 ≤ room0 ∧ room0 < 9223372036854775808) (al : List D.A5) (v : Value) (w : World) (hT : ActsAt w v al) :
    Calls Try.prog 13 #[.int .i64 room0, v] w fun e w' => e = .returned (.bool true) ∧ Below w.heap.size w w' := by
  have AW := Lib.hid (fun W => dawake_any W)
  obtain ⟨At, ct, rfl, hct, hcellt, hok⟩ := hT
  obtain ⟨mr, hmr⟩ : ∃ mr, mr = max room0 0 := ⟨_, rfl⟩
  have hmr1 : 0 ≤ mr ∧ mr < 9223372036854775808 := by omega
  have NW := Lib.hid (new_to (M' := ⟨mr, -1, false, []⟩) room0 hr w (by rw [hmr]))
  have RN0 := fun W => rnew_any room0 W
  rw [← hmr] at RN0
  have RN := Lib.hid RN0
  unfold dskV at RN
  dsimp only at RN
  clear hmr RN0 hr
  go_enter Try.func13, Try.ntmps13
  go_wp2_with (first | (go_at_call 37; (with_reducible refine NW.out.mono ?_); rintro e w1 ⟨p, rfl, k1, s1⟩) | (go_at_call 50; (with_reducible refine (RN.out _).mono ?_); rintro e w2 ⟨rfl, b2⟩; have s2 := s1.trans (b2.mono s1.size); have k2 := k1.at_ b2; have bq := (Below.refl w2.heap.size w2).alloc (Nat.le_refl _) (.cells #[.int .i64 mr, .int .i64 (-1), .bool false, .slice none 0 0] 76); have k2' := k2.at_ bq; have s2' := s2.trans (bq.mono s2.size); have x2 := Blk.new w2 #[.int .i64 mr, .int .i64 (-1), .bool false, .slice none 0 0] 76) | (go_at_call 45; (with_reducible refine (AW.out _).mono ?_); rintro e w3 ⟨rfl, b3⟩; have x3 := x2.at_ b3; have k3 := k2'.at_ b3; have s3 := s2'.trans (b3.mono s2'.size)))
  obtain ⟨bx, hbx⟩ : ∃ bx, bx = w2.heap.size := ⟨_, rfl⟩
  have hbxw : w.heap.size ≤ bx := by rw [hbx]; exact s2.size
  rw [← hbx] at x3 ⊢
  clear hbx x2 k1 k2 k2' s1 s2 s2' b2 bq b3 NW RN
  have r3 : FRow w3 (.slice none 0 0) [] := RowN.nil _ _ _
  go_loopw [7] (fun i wr => ∃ (k : Nat) (room fuse : Int) (dead : Bool) (l : List D.Fl) (A : Option Addr) (c : Nat), k ≤ al.length ∧ k ≤ 60 ∧ i = .int .i64 (k : Int) ∧ DkAt w.heap.size wr p ⟨room, fuse, dead, l⟩ ∧ Blk wr bx #[.int .i64 room, .int .i64 fuse, .bool dead, .slice A l.length c] 76 ∧ FRow wr (.slice A l.length c) l ∧ D.used l ≤ 300 * k ∧ Below w.heap.size w wr) (fun i _ => 60 - (intOf i).toNat)
  case atStart => exact ⟨0, mr, -1, false, [], none, 0, by omega, by omega, rfl, k3, x3, r3, Nat.le_refl _, s3⟩
  case round =>
    clear x3 k3 s3 r3
    obtain ⟨k, room, fuse, dead, l, A, c, hk1, hk2, rfl, hdk, hX, hrow, hus, hB⟩ := hrel
    have q0 : (0 : Int) ≤ (k : Int) := by omega
    by_cases hmore : k < al.length ∧ k < 60
    · obtain ⟨hm1, hm2⟩ := hmore
      have d2 : decide ((k : Int) < (al.length : Int)) = true := decide_eq_true (by omega)
      have d3 : decide ((k : Int) < 60) = true := decide_eq_true (by omega)
      have q1 : (k : Int) < (al.length : Int) := by omega
      obtain ⟨a, ha⟩ : ∃ a, al[k]? = some a := ⟨_, List.getElem?_eq_getElem hm1⟩
      have hoka := hok a (List.mem_of_getElem? ha)
      obtain ⟨g, o, rfl, hg, hcl⟩ : ∃ g o, At = some ⟨g, o, none⟩ ∧ g < w.heap.size ∧ ∀ j x, al[j]? = some x → w.rangeAt g (o + j * 6) x.cells := by
        rcases hcellt with e | e
        · exfalso
          have h9 : al.length = 0 := by rw [e]; rfl
          omega
        · exact e
      have cR0 : wr.rangeAt g (o + k * 6) a.cells := fun j u hj => (hB.cell (p := ⟨g, o + k * 6 + j, none⟩) hg).trans (hcl k a ha j u hj)
      have hw1 : IntKind.i64.wrap ((k : Int) + 1) = ((k + 1 : Nat) : Int) := by rw [IntWalk.i64_in _ (by omega)]; omega
      obtain ⟨kind, name, to, b, n, ks, kv⟩ := a
      have cR : wr.rangeAt g (o + k * 6) [.int .i64 kind, .string ⟨name.toArray⟩, .string ⟨to.toArray⟩, .string ⟨b.toArray⟩, .int .i64 n, kv] := cR0
      have hsz : (Try.prog.info? 71).map (·.size) = some [Value.int .i64 kind, .string ⟨name.toArray⟩, .string ⟨to.toArray⟩, .string ⟨b.toArray⟩, .int .i64 n, kv].length := size_act5
      have hsu := D.step_used ⟨room, fuse, dead, l⟩ ⟨kind, name, to, b, n, ks, kv⟩ (D.rise_ne (tame_of hdk (by show D.used l ≤ _; omega)).rise)
      change _ ≤ D.used l + 300 at hsu
      have hnm := hoka.name
      obtain ⟨M1, hM1⟩ : ∃ M1, M1 = (D.step ⟨room, fuse, dead, l⟩ ⟨kind, name, to, b, n, ks, kv⟩).1 := ⟨_, rfl⟩
      rw [← hM1] at hsu
      obtain ⟨room1, fuse1, dead1, l1⟩ := M1
      dsimp only at hsu hnm
      have hul : D.used l ≤ 100000 := by omega
      have hul1 : D.used l1 ≤ 300 * (k + 1) := by omega
      obtain ⟨Ak, ck, hkv, -, -⟩ := hoka.ints
      dsimp only at hkv
      rw [List.length_map] at hkv
      subst hkv
      have DO := Lib.hid (fun W (hD : DkAt w.heap.size W p ⟨room, fuse, dead, l⟩) (hV : FRow W (.slice A l.length c) l) (hbw : Below w.heap.size w W) => does_to hM1.symm hoka hul hD hV hbw)
      have ba := (Below.refl wr.heap.size wr).alloc (Nat.le_refl _) (.cells #[.int .i64 kind, .string ⟨name.toArray⟩, .string ⟨to.toArray⟩, .string ⟨b.toArray⟩, .int .i64 n, .slice Ak ks.length ck] 71)
      have A0 := Blk.new wr #[.int .i64 kind, .string ⟨name.toArray⟩, .string ⟨to.toArray⟩, .string ⟨b.toArray⟩, .int .i64 n, .slice Ak ks.length ck] 71
      have X0 := hX.at_ ba
      have k0 := hdk.at_ ba
      have row0 := hrow.at_ ba
      have B0 := hB.trans (ba.mono hB.size)
      have hbxr : bx ≠ wr.heap.size := by have := hX.lt; omega
      have hbxr' : wr.heap.size ≠ bx := by omega
      obtain ⟨x00, x01, x02, x03, y00, y01, y02, y03⟩ := free4 X0
      clear cR0 hcl hcellt ha hok hoka hM1 hsu hus ba
      go_upto_region 9 with (first | (refine wpList_load_mid rfl 71 (.tmp 41) rfl g (o + k * 6) rfl _ _ cR Try.underlying71 rfl hsz ?_; go_frame) | (go_at_call 51; go_loud ((with_reducible refine (DO.out _ k0 row0 B0).mono ?_); rintro e w1 ⟨A1, c1, rfl, k1, row1, s1⟩; have bd := (Below.refl w1.heap.size w1).alloc (Nat.le_refl _) (.cells #[.int .i64 room1, .int .i64 fuse1, .bool dead1, .slice A1 l1.length c1] 76); have X1 := (X0.dstp s1 (by decide) (by decide)).at_ bd; have T1 := Blk.new w1 #[.int .i64 room1, .int .i64 fuse1, .bool dead1, .slice A1 l1.length c1] 76; have A1' := (A0.dstp s1 (by decide) (by decide)).at_ bd; have k1' := k1.at_ bd; have row1' := row1.at_ bd; have B1 := (B0.trans s1.below).trans (bd.mono (B0.trans s1.below).size); have hne1 : bx ≠ w1.heap.size := (by have := (X0.dstp s1 (by decide) (by decide)).lt; omega); have hne2 : w1.heap.size ≠ bx := hne1.symm; clear x00 x01 x02 x03 y00 y01 y02 y03)))
      refine wp_world fun W1 hW1 => ?_
      rw [← hW1] at X1 A1' k1' row1' B1 T1
      have n19 := hW1
      have hWs : wr.heap.size < W1.heap.size := A1'.lt
      clear n19
      clear hW1
      obtain ⟨u00, u01, u02, u03, v00, v01, v02, v03⟩ := free4 X1
      obtain ⟨t00, t01, t02, t03, -, -, -, -⟩ := free4 T1
      go_upto_region 10 with (fail)
      obtain ⟨W2, hW2, X2, hB2, hA2, hr2, hk2'⟩ := store4k X1 (.int .i64 room1) (.int .i64 fuse1) (.bool dead1) (.slice A1 l1.length c1)
      rw [← hW2]
      have A2 := hA2 _ _ _ A1' hbxr'
      have k2 := hk2' _ _ _ k1'
      have row2 := hr2 _ _ row1'
      have B2 := hB2 _ _ hbxw B1
      have hl1 : l1.length ≤ 4096 := k2.few
      obtain ⟨ab, hab⟩ : ∃ ab, ab = wr.heap.size := ⟨_, rfl⟩
      rw [← hab] at A2 ⊢
      clear u00 u01 u02 u03 v00 v01 v02 v03 t00 t01 t02 t03 hW2 X1 A1' k1' row1' B1 T1 hB2 hA2 hr2 hk2' hWs hab
      obtain ⟨u00, u01, u02, u03, -, -, -, -⟩ := free4 (X2.alloc (.cells #[] 9))
      have r0 : Row1 (W2.alloc (.cells #[] 9)) 9 (.slice (some ⟨W2.heap.size, 0, none⟩) 0 0) [] := Row1.build W2 _ [] #[] 0 rfl rfl (by omega)
      have ho0 : (Value.slice (some ⟨W2.heap.size, 0, none⟩) 0 0).ownBlock = none ∨ ∃ k, W2.heap.size ≤ k ∧ (Value.slice (some ⟨W2.heap.size, 0, none⟩) 0 0).ownBlock = some k := .inr ⟨_, Nat.le_refl _, rfl⟩
      have hb0 := (Below.refl W2.heap.size W2).alloc (Nat.le_refl _) (.cells #[] 9)
      go_wp2
      clear u00 u01 u02 u03
      go_loopw [11, 55] (fun u i wz => ∃ j : Nat, j ≤ l1.length ∧ i = .int .i64 (j : Int) ∧ Row1 wz 9 u (((l1.map D.Fl.name).take j).map strV) ∧ (u.ownBlock = none ∨ ∃ k, W2.heap.size ≤ k ∧ u.ownBlock = some k) ∧ Below W2.heap.size W2 wz) (fun _ i _ => l1.length - (intOf i).toNat)
      case atStart => exact ⟨0, Nat.zero_le _, rfl, r0, ho0, hb0⟩
      case round =>
        clear r0 ho0 hb0
        obtain ⟨j, hj, rfl, hnr, hno, hBz⟩ := hrel
        have j0 : (0 : Int) ≤ (j : Int) := by omega
        have B3 := B2.trans (hBz.mono B2.size)
        by_cases hjm : j < l1.length
        · have e1 : decide ((j : Int) < (l1.length : Int)) = true := decide_eq_true (by omega)
          have j1 : (j : Int) < (l1.length : Int) := by omega
          obtain ⟨f, hf⟩ : ∃ f, l1[j]? = some f := ⟨_, List.getElem?_eq_getElem hjm⟩
          obtain ⟨gf, of, hA1, hgf, cF⟩ := fread_at ((fread_row row2).at_ hBz) hf
          subst hA1
          have htk : (l1.map D.Fl.name).take (j + 1) = (l1.map D.Fl.name).take j ++ [f.name] := by
            rw [List.take_add_one, List.getElem?_map, hf]; rfl
          obtain ⟨fnm, fb, fs⟩ := f
          have cF' : wr.rangeAt gf (of + j * 3) [.string ⟨fnm.toArray⟩, .string ⟨fb.toArray⟩, .int .i64 (fs : Int)] := cF
          have hszf : (Try.prog.info? 81).map (·.size) = some [Value.string ⟨fnm.toArray⟩, .string ⟨fb.toArray⟩, .int .i64 (fs : Int)].length := size_file
          have hw2 : IntKind.i64.wrap ((j : Int) + 1) = ((j + 1 : Nat) : Int) := by rw [IntWalk.i64_in _ (by omega)]; omega
          dsimp only at htk
          have Htk := Lib.hid (show ((l1.map D.Fl.name).take j).map strV ++ [strV fnm] = ((l1.map D.Fl.name).take (j + 1)).map strV by rw [htk, List.map_append]; rfl)
          have hnl : (((l1.map D.Fl.name).take j).map strV).length + 1 ≤ 1000000 := by rw [List.length_map, List.length_take, List.length_map]; omega
          have bf := (Below.refl wr.heap.size wr).alloc (Nat.le_refl _) (.cells #[Value.string ⟨fnm.toArray⟩, .string ⟨fb.toArray⟩, .int .i64 (fs : Int)] 81)
          have hnr1 := hnr.at_ bf
          have hBf := hBz.trans (bf.mono hBz.size)
          clear htk cF hf
          generalize ((l1.map D.Fl.name).take j).map strV = rw0 at *
          go_wp2_with (first | (refine wpList_load_mid rfl 81 (.tmp 57) rfl gf (of + j * 3) rfl _ _ cF' Try.underlying81 rfl hszf ?_; go_frame) | (at_builtin; go_loud (refine wpList_append_row rfl info_str (.tmp 59) (.tmp 62) 35 rfl Try.underlying35 rfl (hnr1.alloc _) ⟨wr.heap.size + 1, 0, none⟩ 1 1 [strV fnm] rfl rfl (newS wr _ [strV fnm] _ rfl _) (str_one [fnm]) (by omega) ?_; intro v3 w3 hrow3 hg3 hr3; rw [Htk.out] at hrow3; have hBg := hBf.alloc hBf.size (.cells #[strV fnm] 9); have hB3 := below_grown_own hBg hBg.size hg3 hno; have hown3 := own_later hno hBg.size hr3)))
          go_roundw
          case rel => exact ⟨j + 1, by omega, by rfl, hrow3, hown3, hB3⟩
          case measure => simp [intOf]; omega
        · have e1 : decide ((j : Int) < (l1.length : Int)) = false := decide_eq_false (by omega)
          have e2 : decide (j < l1.length) = false := decide_eq_false hjm
          rw [List.take_of_length_le (by rw [List.length_map]; omega)] at hnr
          have k3 := k2.at_ hBz
          have X3 := X2.at_ hBz
          have A3 := A2.at_ hBz
          have row3 := row2.at_ hBz
          obtain ⟨An, mn, cn, rfl, hnr⟩ := row_open2 hnr
          clear hBz hno X2 A2 row2 k2 B2
          have a31 := A3.cellv (i := 1) rfl
          obtain ⟨c30, c31, c32, c33, -, -, -, -⟩ := free4 X3
          have hTm := tame_of k3 (by show D.used l1 ≤ _; omega)
          have hul2 : D.used l1 ≤ 1099511627776 := by omega
          obtain ⟨NL, hNL⟩ : ∃ NL, NL = l1.map D.Fl.name := ⟨_, rfl⟩
          rw [← hNL] at hnr
          have hnl2 : NL.length ≤ 4611686018427387904 := by rw [hNL, List.length_map]; omega
          have RF0 := fun W (h : FRead W (.slice A1 l1.length c1) l1) => rfind_any ⟨room1, fuse1, dead1, l1⟩ (.slice A1 l1.length c1) W h name (by show l1.length ≤ _; omega)
          have RU0 := fun W (h : FRead W (.slice A1 l1.length c1) l1) => rused_any ⟨room1, fuse1, dead1, l1⟩ (.slice A1 l1.length c1) W h (by show l1.length ≤ _; omega) hul2
          unfold dskV at RF0 RU0
          dsimp only at RF0 RU0
          have RU := Lib.hid RU0
          clear RU0
          have SM := Lib.hid (fun W v1 v2 (h1 : SRead W v1 (NL.map strV)) (h2 : SRead W v2 (NL.map strV)) => lsame_yes h1 h2 hnl2)
          have UU := Lib.hid (fun W (h : DkAt w.heap.size W p ⟨room1, fuse1, dead1, l1⟩) => used_to h hul2 rfl)
          cases dead1 with
          | true =>
            cases hf : D.fnd D.Fl.name name l1 with
            | none =>
              have RF := Lib.hid (show ∀ W (h : FRead W (.slice A1 l1.length c1) l1), Calls Try.prog 52 #[.agg #[.int .i64 room1, .int .i64 fuse1, .bool true, .slice A1 l1.length c1], .string ⟨name.toArray⟩] W fun e w' => e = .returned (.tuple #[.agg #[.string ⟨#[]⟩, .string ⟨#[]⟩, .int .i64 0], .bool false]) ∧ Below W.heap.size W w' from fun W h => by have h9 := RF0 W h; rw [hf] at h9; exact h9)
              have RE := Lib.hid (show ∀ W (h : DkAt w.heap.size W p ⟨room1, fuse1, true, l1⟩), Calls Try.prog 43 #[.pointer (some ⟨p, 0, none⟩), .string ⟨name.toArray⟩] W fun e w' => e = .returned (.tuple #[.string ⟨#[]⟩, .int .i64 10]) ∧ w' = W from fun W h => read_to h name hnm (s := []) (z := 10) (by rw [D.read_dead rfl]) (by rw [D.read_dead rfl]; rfl))
              have LL := Lib.hid (fun W (h : DkAt w.heap.size W p ⟨room1, fuse1, true, l1⟩) => dlist_any h)
              have DD := Lib.hid (fun W (h : DkAt w.heap.size W p ⟨room1, fuse1, true, l1⟩) => dead_any h)
              rw [show D.list ⟨room1, fuse1, true, l1⟩ = [] from rfl] at LL
              clear SM
              have SM := Lib.hid (fun W v1 v2 (h1 : SRead W v1 (([] : List (List UInt8)).map strV)) (h2 : SRead W v2 (([] : List (List UInt8)).map strV)) => lsame_yes h1 h2 (by simp))
              clear RF0 hf hNL hTm
              go_wp2_with (first | (go_at_call 43; go_loud ((with_reducible refine (RE.out _ k3).mono ?_); rintro e wr ⟨rfl, rfl⟩)) | (go_at_call 52; go_loud ((with_reducible refine (RF.out _ (fread_row row3)).mono ?_); rintro e w4 ⟨rfl, b4⟩; have b4o := b4.alloc b4.size (.cells #[.string ⟨#[]⟩, .string ⟨#[]⟩, .int .i64 0] 81); have b4a := b4.alloc b4.size (.cells #[.string ⟨#[]⟩, .string ⟨#[]⟩, .int .i64 0] 81); have X4 := X3.at_ b4a; have k4 := k3.at_ b4a; have row4 := row3.at_ b4a; have NR4 := (Row1.nil _ _ : Row1 (w4.alloc (.cells #[.string ⟨#[]⟩, .string ⟨#[]⟩, .int .i64 0] 81)) 9 (.slice none 0 0) (([] : List (List UInt8)).map strV)); have B4 := B3.trans (b4a.mono B3.size); have F4 := Blk.new w4 #[.string ⟨#[]⟩, .string ⟨#[]⟩, .int .i64 0] 81; obtain ⟨g40, g41, g42, g43, -, -, -, -⟩ := free4 (X3.at_ b4o))))
              refine wp_world fun W5 hW5 => ?_
              rw [← hW5] at X4 k4 row4 NR4 B4 F4
              have X5 := X4
              have k5 := k4
              have row5 := row4
              have NR5 := NR4
              have B5 := B4
              have F5 := F4
              clear hW5 g40 g41 g42 g43 X4 k4 row4 NR4 B4 F4
              have X5d : Blk W5.drew bx #[.int .i64 room1, .int .i64 fuse1, .bool true, .slice A1 l1.length c1] 76 := X5
              have F5d : Blk W5.drew w4.heap.size #[.string ⟨#[]⟩, .string ⟨#[]⟩, .int .i64 0] 81 := F5
              have k5d : DkAt w.heap.size W5.drew p ⟨room1, fuse1, true, l1⟩ := k5.at_ (show Below W5.heap.size W5 W5.drew from below_drewN (Below.refl _ _) 1)
              have row5d : FRow W5.drew (.slice A1 l1.length c1) l1 := row5
              have NRd : Row1 W5.drew 9 (.slice none 0 0) ((([] : List (List UInt8))).map strV) := NR5
              apply wp_region_rel_below [[(10, none)], [(84, some 0)], [(85, some 1)], [(5, none), (86, some 2)], [(87, some 3), (86, some 2)], [(6, none), (86, some 2)], [(89, some 5), (86, some 2)], [(88, some 4), (90, some 6), (86, some 2)], [(86, some 2), (91, some 7)], [(92, some 8)], [(5, none), (93, some 9)], [(94, some 10), (93, some 9)], [(6, none), (93, some 9)], [(96, some 12), (93, some 9)], [(95, some 11), (97, some 13), (93, some 9)], [(93, some 9), (98, some 14)], [(99, some 15)], [(5, none), (100, some 16)], [(101, some 17), (100, some 16)], [(11, none), (100, some 16)], [(102, some 18), (103, some 19), (100, some 16)], [(104, some 20), (100, some 16)], [(100, some 16), (105, some 21)], [(106, some 22)], [(15, none), (107, some 23)], [(18, none), (107, some 23)], [(108, some 24), (109, some 25), (107, some 23)], [(107, some 23), (110, some 26)], [(111, some 27)], [(14, none), (112, some 28)], [(16, none), (112, some 28)], [(114, some 30), (112, some 28)], [(113, some 29), (115, some 31), (112, some 28)], [(112, some 28), (116, some 32)]] [eqv _, eqv _, eqv _, eqv _, eqv _, eqv _, eqv _, eqv _, eqv _, eqv _, eqv _, eqv _, eqv _, eqv _, eqv _, eqv _, eqv _, eqv _, rowS (([] : List (List UInt8))), eqv _, eqv _, eqv _, eqv _, eqv _, eqv _, eqv _, eqv _, eqv _, eqv _, eqv _, eqv _, eqv _, eqv _, eqv _] (by kernel_rfl) (by kernel_rfl)
              case hobs =>
                refine ⟨?_, ?_⟩
                · rintro L a1 w1 hT - - ⟨h10, -⟩   -- 0: Op.move t10
                  have e10 : a1.tmps.getD 10 undef = _ := h10
                  have f10 := getD_form e10
                  clear h10
                  go_simp; exact left_intro rfl (Stp.refl _) trivial
                refine ⟨?_, ?_⟩
                · rintro L a1 w1 hT - - ⟨h84, -⟩   -- 1: Op.unOp UnOp.not 4 t84
                  have e84 : a1.tmps.getD 84 undef = _ := h84
                  have f84 := getD_form e84
                  clear h84
                  go_simp; exact left_intro rfl (Stp.refl _) trivial
                refine ⟨?_, ?_⟩
                · rintro L a1 w1 hT - - ⟨h85, -⟩   -- 2: Op.move t85
                  have e85 : a1.tmps.getD 85 undef = _ := h85
                  have f85 := getD_form e85
                  clear h85
                  go_simp; exact left_intro rfl (Stp.refl _) trivial
                refine ⟨?_, ?_⟩
                · rintro L a1 w1 hT - - ⟨h5, h86, -⟩   -- 3: Op.move t5
                  have e5 : a1.tmps.getD 5 undef = _ := h5
                  have f5 := getD_form e5
                  have e86 : a1.tmps.getD 86 undef = _ := h86
                  have f86 := getD_form e86
                  clear h5 h86
                  refine ⟨false, 86, by rfl, e86, ?_⟩; rw [if_pos rfl]
                  go_simp; exact left_intro rfl (Stp.refl _) trivial
                refine ⟨?_, ?_⟩
                · rintro L a1 w1 hT - - ⟨h87, h86, -⟩   -- 4: Op.call { value (Operand.func 44), args := #[t87], argTypes := #[58] }
                  have e87 : a1.tmps.getD 87 undef = _ := h87
                  have f87 := getD_form e87
                  have e86 : a1.tmps.getD 86 undef = _ := h86
                  have f86 := getD_form e86
                  clear h87 h86
                  refine ⟨false, 86, by rfl, e86, ?_⟩; rw [if_pos rfl]
                  have kT := k5d.at_ hT
                  go_simp; go_at_call 44; (with_reducible refine (DD.out _ kT).mono ?_); rintro e w2 ⟨rfl, rfl⟩; exact left_intro rfl (Stp.refl _) trivial
                refine ⟨?_, ?_⟩
                · rintro L a1 w1 hT - - ⟨h6, h86, -⟩   -- 5: Op.fieldAddr 76 t6 2
                  have e6 : a1.tmps.getD 6 undef = _ := h6
                  have f6 := getD_form e6
                  have e86 : a1.tmps.getD 86 undef = _ := h86
                  have f86 := getD_form e86
                  clear h6 h86
                  refine ⟨false, 86, by rfl, e86, ?_⟩; rw [if_pos rfl]
                  go_simp; exact left_intro rfl (Stp.refl _) trivial
                refine ⟨?_, ?_⟩
                · rintro L a1 w1 hT - - ⟨h89, h86, -⟩   -- 6: Op.load 4 t89
                  have e89 : a1.tmps.getD 89 undef = _ := h89
                  have f89 := getD_form e89
                  have e86 : a1.tmps.getD 86 undef = _ := h86
                  have f86 := getD_form e86
                  clear h89 h86
                  refine ⟨false, 86, by rfl, e86, ?_⟩; rw [if_pos rfl]
                  have c62 := (X5d.at_ hT).cellv (i := 2) rfl
                  go_simp; exact left_intro rfl (Stp.refl _) trivial
                refine ⟨?_, ?_⟩
                · rintro L a1 w1 hT - - ⟨h88, h90, h86, -⟩   -- 7: Op.binOp BinOp.neq 4 t88 t90 4
                  have e88 : a1.tmps.getD 88 undef = _ := h88
                  have f88 := getD_form e88
                  have e90 : a1.tmps.getD 90 undef = _ := h90
                  have f90 := getD_form e90
                  have e86 : a1.tmps.getD 86 undef = _ := h86
                  have f86 := getD_form e86
                  clear h88 h90 h86
                  refine ⟨false, 86, by rfl, e86, ?_⟩; rw [if_pos rfl]
                  go_simp; exact left_intro rfl (Stp.refl _) trivial
                refine ⟨?_, ?_⟩
                · rintro L a1 w1 hT - - ⟨h86, h91, -⟩   -- 8: Op.pick t86 (const (Value.bool true)) t91
                  have e86 : a1.tmps.getD 86 undef = _ := h86
                  have f86 := getD_form e86
                  have e91 : a1.tmps.getD 91 undef = _ := h91
                  have f91 := getD_form e91
                  clear h86 h91
                  go_simp; exact left_intro rfl (Stp.refl _) trivial
                refine ⟨?_, ?_⟩
                · rintro L a1 w1 hT - - ⟨h92, -⟩   -- 9: Op.move t92
                  have e92 : a1.tmps.getD 92 undef = _ := h92
                  have f92 := getD_form e92
                  clear h92
                  go_simp; exact left_intro rfl (Stp.refl _) trivial
                refine ⟨?_, ?_⟩
                · rintro L a1 w1 hT - - ⟨h5, h93, -⟩   -- 10: Op.move t5
                  have e5 : a1.tmps.getD 5 undef = _ := h5
                  have f5 := getD_form e5
                  have e93 : a1.tmps.getD 93 undef = _ := h93
                  have f93 := getD_form e93
                  clear h5 h93
                  refine ⟨false, 93, by rfl, e93, ?_⟩; rw [if_pos rfl]
                  go_simp; exact left_intro rfl (Stp.refl _) trivial
                refine ⟨?_, ?_⟩
                · rintro L a1 w1 hT - - ⟨h94, h93, -⟩   -- 11: Op.call { value (Operand.func 46), args := #[t94], argTypes := #[58] }
                  have e94 : a1.tmps.getD 94 undef = _ := h94
                  have f94 := getD_form e94
                  have e93 : a1.tmps.getD 93 undef = _ := h93
                  have f93 := getD_form e93
                  clear h94 h93
                  refine ⟨false, 93, by rfl, e93, ?_⟩; rw [if_pos rfl]
                  have kT := k5d.at_ hT
                  go_simp; go_at_call 46; (with_reducible refine (UU.out _ kT).mono ?_); rintro e w2 ⟨rfl, hb⟩; exact left_intro rfl (Stp.of hb) trivial
                refine ⟨?_, ?_⟩
                · rintro L a1 w1 hT - - ⟨h6, h93, -⟩   -- 12: Op.load 76 t6
                  have e6 : a1.tmps.getD 6 undef = _ := h6
                  have f6 := getD_form e6
                  have e93 : a1.tmps.getD 93 undef = _ := h93
                  have f93 := getD_form e93
                  clear h6 h93
                  refine ⟨false, 93, by rfl, e93, ?_⟩; rw [if_pos rfl]
                  obtain ⟨c60, c61, c62, c63, -, -, -, -⟩ := free4 (X5d.at_ hT)
                  go_simp; exact left_intro rfl (Stp.refl _) trivial
                refine ⟨?_, ?_⟩
                · rintro L a1 w1 hT - - ⟨h96, h93, -⟩   -- 13: Op.call { value (Operand.func 53), args := #[t96], argTypes := #[76] }
                  have e96 : a1.tmps.getD 96 undef = _ := h96
                  have f96 := getD_form e96
                  have e93 : a1.tmps.getD 93 undef = _ := h93
                  have f93 := getD_form e93
                  clear h96 h93
                  refine ⟨false, 93, by rfl, e93, ?_⟩; rw [if_pos rfl]
                  have hrT := fread_row (FRow.at_ row5d hT)
                  go_simp; go_at_call 53; (with_reducible refine (RU.out _ hrT).mono ?_); rintro e w2 ⟨rfl, hb⟩; exact left_intro rfl (Stp.of hb) trivial
                refine ⟨?_, ?_⟩
                · rintro L a1 w1 hT - - ⟨h95, h97, h93, -⟩   -- 14: Op.binOp BinOp.neq 3 t95 t97 3
                  have e95 : a1.tmps.getD 95 undef = _ := h95
                  have f95 := getD_form e95
                  have e97 : a1.tmps.getD 97 undef = _ := h97
                  have f97 := getD_form e97
                  have e93 : a1.tmps.getD 93 undef = _ := h93
                  have f93 := getD_form e93
                  clear h95 h97 h93
                  refine ⟨false, 93, by rfl, e93, ?_⟩; rw [if_pos rfl]
                  go_simp; exact left_intro rfl (Stp.refl _) trivial
                refine ⟨?_, ?_⟩
                · rintro L a1 w1 hT - - ⟨h93, h98, -⟩   -- 15: Op.pick t93 (const (Value.bool true)) t98
                  have e93 : a1.tmps.getD 93 undef = _ := h93
                  have f93 := getD_form e93
                  have e98 : a1.tmps.getD 98 undef = _ := h98
                  have f98 := getD_form e98
                  clear h93 h98
                  go_simp; exact left_intro rfl (Stp.refl _) trivial
                refine ⟨?_, ?_⟩
                · rintro L a1 w1 hT - - ⟨h99, -⟩   -- 16: Op.move t99
                  have e99 : a1.tmps.getD 99 undef = _ := h99
                  have f99 := getD_form e99
                  clear h99
                  go_simp; exact left_intro rfl (Stp.refl _) trivial
                refine ⟨?_, ?_⟩
                · rintro L a1 w1 hT - - ⟨h5, h100, -⟩   -- 17: Op.move t5
                  have e5 : a1.tmps.getD 5 undef = _ := h5
                  have f5 := getD_form e5
                  have e100 : a1.tmps.getD 100 undef = _ := h100
                  have f100 := getD_form e100
                  clear h5 h100
                  refine ⟨false, 100, by rfl, e100, ?_⟩; rw [if_pos rfl]
                  go_simp; exact left_intro rfl (Stp.refl _) trivial
                refine ⟨?_, ?_⟩
                · rintro L a1 w1 hT - - ⟨h101, h100, -⟩   -- 18: Op.call { value (Operand.func 55), args := #[t101], argTypes := #[58] }
                  have e101 : a1.tmps.getD 101 undef = _ := h101
                  have f101 := getD_form e101
                  have e100 : a1.tmps.getD 100 undef = _ := h100
                  have f100 := getD_form e100
                  clear h101 h100
                  refine ⟨false, 100, by rfl, e100, ?_⟩; rw [if_pos rfl]
                  have kT := k5d.at_ hT
                  go_simp; go_at_call 55; (with_reducible refine (LL.out _ kT).mono ?_); rintro e w2 ⟨vl, rfl, rowl, hb⟩; exact left_intro (T := Stp) (Ph := fun _ _ _ => True) (show rowS _ _ _ from ⟨_, rfl, rowl⟩) (Stp.of hb) trivial
                refine ⟨?_, ?_⟩
                · rintro L a1 w1 hT - - ⟨h11, h100, -⟩   -- 19: Op.move t11
                  have e11 : a1.tmps.getD 11 undef = _ := h11
                  have f11 := getD_form e11
                  have e100 : a1.tmps.getD 100 undef = _ := h100
                  have f100 := getD_form e100
                  clear h11 h100
                  refine ⟨false, 100, by rfl, e100, ?_⟩; rw [if_pos rfl]
                  go_simp; exact left_intro rfl (Stp.refl _) trivial
                refine ⟨?_, ?_⟩
                · rintro L a1 w1 hT - - ⟨h102, h103, h100, -⟩   -- 20: Op.call { value (Operand.func 54), args := #[t102, t103], argTypes := #[35, 35] }
                  obtain ⟨b102, e102, B102⟩ : (rowS (([] : List (List UInt8)))) (a1.tmps.getD 102 undef) w1 := h102
                  have f102 := getD_form e102
                  have e103 : a1.tmps.getD 103 undef = _ := h103
                  have f103 := getD_form e103
                  have e100 : a1.tmps.getD 100 undef = _ := h100
                  have f100 := getD_form e100
                  clear h103 h100
                  refine ⟨false, 100, by rfl, e100, ?_⟩; rw [if_pos rfl]
                  have hq1 := B102.reads
                  have hq2 := (NRd.at_ hT).reads
                  go_simp; go_at_call 54; (with_reducible refine (SM.out _ _ _ hq1 hq2).mono ?_); rintro e w2 ⟨rfl, nq, rfl⟩; exact left_intro rfl (Stp.of (below_drewN (Below.refl _ _) nq)) trivial
                refine ⟨?_, ?_⟩
                · rintro L a1 w1 hT - - ⟨h104, h100, -⟩   -- 21: Op.unOp UnOp.not 4 t104
                  have e104 : a1.tmps.getD 104 undef = _ := h104
                  have f104 := getD_form e104
                  have e100 : a1.tmps.getD 100 undef = _ := h100
                  have f100 := getD_form e100
                  clear h104 h100
                  refine ⟨false, 100, by rfl, e100, ?_⟩; rw [if_pos rfl]
                  go_simp; exact left_intro rfl (Stp.refl _) trivial
                refine ⟨?_, ?_⟩
                · rintro L a1 w1 hT - - ⟨h100, h105, -⟩   -- 22: Op.pick t100 (const (Value.bool true)) t105
                  have e100 : a1.tmps.getD 100 undef = _ := h100
                  have f100 := getD_form e100
                  have e105 : a1.tmps.getD 105 undef = _ := h105
                  have f105 := getD_form e105
                  clear h100 h105
                  go_simp; exact left_intro rfl (Stp.refl _) trivial
                refine ⟨?_, ?_⟩
                · rintro L a1 w1 hT - - ⟨h106, -⟩   -- 23: Op.move t106
                  have e106 : a1.tmps.getD 106 undef = _ := h106
                  have f106 := getD_form e106
                  clear h106
                  go_simp; exact left_intro rfl (Stp.refl _) trivial
                refine ⟨?_, ?_⟩
                · rintro L a1 w1 hT - - ⟨h15, h107, -⟩   -- 24: Op.move t15
                  have e15 : a1.tmps.getD 15 undef = _ := h15
                  have f15 := getD_form e15
                  have e107 : a1.tmps.getD 107 undef = _ := h107
                  have f107 := getD_form e107
                  clear h15 h107
                  refine ⟨false, 107, by rfl, e107, ?_⟩; rw [if_pos rfl]
                  go_simp; exact left_intro rfl (Stp.refl _) trivial
                refine ⟨?_, ?_⟩
                · rintro L a1 w1 hT - - ⟨h18, h107, -⟩   -- 25: Op.move t18
                  have e18 : a1.tmps.getD 18 undef = _ := h18
                  have f18 := getD_form e18
                  have e107 : a1.tmps.getD 107 undef = _ := h107
                  have f107 := getD_form e107
                  clear h18 h107
                  refine ⟨false, 107, by rfl, e107, ?_⟩; rw [if_pos rfl]
                  go_simp; exact left_intro rfl (Stp.refl _) trivial
                refine ⟨?_, ?_⟩
                · rintro L a1 w1 hT - - ⟨h108, h109, h107, -⟩   -- 26: Op.binOp BinOp.neq 23 t108 t109 23
                  have e108 : a1.tmps.getD 108 undef = _ := h108
                  have f108 := getD_form e108
                  have e109 : a1.tmps.getD 109 undef = _ := h109
                  have f109 := getD_form e109
                  have e107 : a1.tmps.getD 107 undef = _ := h107
                  have f107 := getD_form e107
                  clear h108 h109 h107
                  refine ⟨false, 107, by rfl, e107, ?_⟩; rw [if_pos rfl]
                  go_simp; exact left_intro rfl (Stp.refl _) trivial
                refine ⟨?_, ?_⟩
                · rintro L a1 w1 hT - - ⟨h107, h110, -⟩   -- 27: Op.pick t107 (const (Value.bool true)) t110
                  have e107 : a1.tmps.getD 107 undef = _ := h107
                  have f107 := getD_form e107
                  have e110 : a1.tmps.getD 110 undef = _ := h110
                  have f110 := getD_form e110
                  clear h107 h110
                  go_simp; exact left_intro rfl (Stp.refl _) trivial
                refine ⟨?_, ?_⟩
                · rintro L a1 w1 hT - - ⟨h111, -⟩   -- 28: Op.move t111
                  have e111 : a1.tmps.getD 111 undef = _ := h111
                  have f111 := getD_form e111
                  clear h111
                  go_simp; exact left_intro rfl (Stp.refl _) trivial
                refine ⟨?_, ?_⟩
                · rintro L a1 w1 hT - - ⟨h14, h112, -⟩   -- 29: Op.move t14
                  have e14 : a1.tmps.getD 14 undef = _ := h14
                  have f14 := getD_form e14
                  have e112 : a1.tmps.getD 112 undef = _ := h112
                  have f112 := getD_form e112
                  clear h14 h112
                  refine ⟨false, 112, by rfl, e112, ?_⟩; rw [if_pos rfl]
                  go_simp; exact left_intro rfl (Stp.refl _) trivial
                refine ⟨?_, ?_⟩
                · rintro L a1 w1 hT - - ⟨h16, h112, -⟩   -- 30: Op.fieldAddr 81 t16 1
                  have e16 : a1.tmps.getD 16 undef = _ := h16
                  have f16 := getD_form e16
                  have e112 : a1.tmps.getD 112 undef = _ := h112
                  have f112 := getD_form e112
                  clear h16 h112
                  refine ⟨false, 112, by rfl, e112, ?_⟩; rw [if_pos rfl]
                  go_simp; exact left_intro rfl (Stp.refl _) trivial
                refine ⟨?_, ?_⟩
                · rintro L a1 w1 hT - - ⟨h114, h112, -⟩   -- 31: Op.load 9 t114
                  have e114 : a1.tmps.getD 114 undef = _ := h114
                  have f114 := getD_form e114
                  have e112 : a1.tmps.getD 112 undef = _ := h112
                  have f112 := getD_form e112
                  clear h114 h112
                  refine ⟨false, 112, by rfl, e112, ?_⟩; rw [if_pos rfl]
                  have c71 := (F5d.at_ hT).cellv (i := 1) rfl
                  go_simp; exact left_intro rfl (Stp.refl _) trivial
                refine ⟨?_, ?_⟩
                · rintro L a1 w1 hT - - ⟨h113, h115, h112, -⟩   -- 32: Op.binOp BinOp.neq 9 t113 t115 9
                  have e113 : a1.tmps.getD 113 undef = _ := h113
                  have f113 := getD_form e113
                  have e115 : a1.tmps.getD 115 undef = _ := h115
                  have f115 := getD_form e115
                  have e112 : a1.tmps.getD 112 undef = _ := h112
                  have f112 := getD_form e112
                  clear h113 h115 h112
                  refine ⟨false, 112, by rfl, e112, ?_⟩; rw [if_pos rfl]
                  go_simp; exact left_intro rfl (Stp.refl _) trivial
                refine ⟨?_, ?_⟩
                · rintro L a1 w1 hT - - ⟨h112, h116, -⟩   -- 33: Op.pick t112 (const (Value.bool true)) t116
                  have e112 : a1.tmps.getD 112 undef = _ := h112
                  have f112 := getD_form e112
                  have e116 : a1.tmps.getD 116 undef = _ := h116
                  have f116 := getD_form e116
                  clear h112 h116
                  go_simp; exact left_intro rfl (Stp.refl _) trivial
                trivial
              case hmono => repeat (first | exact trivial | refine ⟨fun _ _ _ _ h => h, ?_⟩ | refine ⟨mono_blkRow _ _ _ _, ?_⟩ | refine ⟨mono_rowS _, ?_⟩)
              case hend =>
                intro w2 hT
                rintro _ rfl _ rfl _ rfl _ rfl _ rfl _ rfl _ rfl _ rfl _ rfl _ rfl _ rfl _ rfl _ rfl _ rfl _ rfl _ rfl _ rfl _ rfl v102 hb102 _ rfl _ rfl _ rfl _ rfl _ rfl _ rfl _ rfl _ rfl _ rfl _ rfl _ rfl _ rfl _ rfl _ rfl _ rfl
                simp only [relEnd, Act.put, List.setIfInBounds_toArray, List.set_cons_succ, List.set_cons_zero]
                have X6 := X5.at_ hT
                have k6 := k5.at_ hT
                have row6 := FRow.at_ row5 hT
                have B6 := B5.trans (Below.mono hT B5.size)
                clear hb102 hT
                go_wp2
                go_roundw
                case rel => exact ⟨k + 1, room1, fuse1, true, l1, A1, c1, by omega, by omega, by rfl, k6, X6, row6, hul1, B6⟩
                case measure => simp [intOf]; omega
            | some f0 =>
              obtain ⟨fnm, S, fs⟩ := f0
              have RF := Lib.hid (show ∀ W (h : FRead W (.slice A1 l1.length c1) l1), Calls Try.prog 52 #[.agg #[.int .i64 room1, .int .i64 fuse1, .bool true, .slice A1 l1.length c1], .string ⟨name.toArray⟩] W fun e w' => e = .returned (.tuple #[.agg #[.string ⟨fnm.toArray⟩, .string ⟨S.toArray⟩, .int .i64 (fs : Int)], .bool true]) ∧ Below W.heap.size W w' from fun W h => by have h9 := RF0 W h; rw [hf] at h9; exact h9)
              have RE := Lib.hid (show ∀ W (h : DkAt w.heap.size W p ⟨room1, fuse1, true, l1⟩), Calls Try.prog 43 #[.pointer (some ⟨p, 0, none⟩), .string ⟨name.toArray⟩] W fun e w' => e = .returned (.tuple #[.string ⟨#[]⟩, .int .i64 10]) ∧ w' = W from fun W h => read_to h name hnm (s := []) (z := 10) (by rw [D.read_dead rfl]) (by rw [D.read_dead rfl]; rfl))
              have LL := Lib.hid (fun W (h : DkAt w.heap.size W p ⟨room1, fuse1, true, l1⟩) => dlist_any h)
              have DD := Lib.hid (fun W (h : DkAt w.heap.size W p ⟨room1, fuse1, true, l1⟩) => dead_any h)
              rw [show D.list ⟨room1, fuse1, true, l1⟩ = [] from rfl] at LL
              clear SM
              have SM := Lib.hid (fun W v1 v2 (h1 : SRead W v1 (([] : List (List UInt8)).map strV)) (h2 : SRead W v2 (([] : List (List UInt8)).map strV)) => lsame_yes h1 h2 (by simp))
              clear RF0 hf hNL hTm
              go_wp2_with (first | (go_at_call 43; go_loud ((with_reducible refine (RE.out _ k3).mono ?_); rintro e wr ⟨rfl, rfl⟩)) | (go_at_call 52; go_loud ((with_reducible refine (RF.out _ (fread_row row3)).mono ?_); rintro e w4 ⟨rfl, b4⟩; have b4o := b4.alloc b4.size (.cells #[.string ⟨fnm.toArray⟩, .string ⟨S.toArray⟩, .int .i64 (fs : Int)] 81); have b4a := b4.alloc b4.size (.cells #[.string ⟨fnm.toArray⟩, .string ⟨#[]⟩, .int .i64 (fs : Int)] 81); have X4 := X3.at_ b4a; have k4 := k3.at_ b4a; have row4 := row3.at_ b4a; have NR4 := (Row1.nil _ _ : Row1 (w4.alloc (.cells #[.string ⟨fnm.toArray⟩, .string ⟨#[]⟩, .int .i64 (fs : Int)] 81)) 9 (.slice none 0 0) (([] : List (List UInt8)).map strV)); have B4 := B3.trans (b4a.mono B3.size); have F4 := Blk.new w4 #[.string ⟨fnm.toArray⟩, .string ⟨#[]⟩, .int .i64 (fs : Int)] 81; obtain ⟨g40, g41, g42, g43, -, -, -, -⟩ := free4 (X3.at_ b4o))))
              refine wp_world fun W5 hW5 => ?_
              rw [← hW5] at X4 k4 row4 NR4 B4 F4
              have X5 := X4
              have k5 := k4
              have row5 := row4
              have NR5 := NR4
              have B5 := B4
              have F5 := F4
              clear hW5 g40 g41 g42 g43 X4 k4 row4 NR4 B4 F4
              have X5d : Blk W5.drew bx #[.int .i64 room1, .int .i64 fuse1, .bool true, .slice A1 l1.length c1] 76 := X5
              have F5d : Blk W5.drew w4.heap.size #[.string ⟨fnm.toArray⟩, .string ⟨#[]⟩, .int .i64 (fs : Int)] 81 := F5
              have k5d : DkAt w.heap.size W5.drew p ⟨room1, fuse1, true, l1⟩ := k5.at_ (show Below W5.heap.size W5 W5.drew from below_drewN (Below.refl _ _) 1)
              have row5d : FRow W5.drew (.slice A1 l1.length c1) l1 := row5
              have NRd : Row1 W5.drew 9 (.slice none 0 0) ((([] : List (List UInt8))).map strV) := NR5
              apply wp_region_rel_below [[(10, none)], [(84, some 0)], [(85, some 1)], [(5, none), (86, some 2)], [(87, some 3), (86, some 2)], [(6, none), (86, some 2)], [(89, some 5), (86, some 2)], [(88, some 4), (90, some 6), (86, some 2)], [(86, some 2), (91, some 7)], [(92, some 8)], [(5, none), (93, some 9)], [(94, some 10), (93, some 9)], [(6, none), (93, some 9)], [(96, some 12), (93, some 9)], [(95, some 11), (97, some 13), (93, some 9)], [(93, some 9), (98, some 14)], [(99, some 15)], [(5, none), (100, some 16)], [(101, some 17), (100, some 16)], [(11, none), (100, some 16)], [(102, some 18), (103, some 19), (100, some 16)], [(104, some 20), (100, some 16)], [(100, some 16), (105, some 21)], [(106, some 22)], [(15, none), (107, some 23)], [(18, none), (107, some 23)], [(108, some 24), (109, some 25), (107, some 23)], [(107, some 23), (110, some 26)], [(111, some 27)], [(14, none), (112, some 28)], [(16, none), (112, some 28)], [(114, some 30), (112, some 28)], [(113, some 29), (115, some 31), (112, some 28)], [(112, some 28), (116, some 32)]] [eqv _, eqv _, eqv _, eqv _, eqv _, eqv _, eqv _, eqv _, eqv _, eqv _, eqv _, eqv _, eqv _, eqv _, eqv _, eqv _, eqv _, eqv _, rowS (([] : List (List UInt8))), eqv _, eqv _, eqv _, eqv _, eqv _, eqv _, eqv _, eqv _, eqv _, eqv _, eqv _, eqv _, eqv _, eqv _, eqv _] (by kernel_rfl) (by kernel_rfl)
              case hobs =>
                refine ⟨?_, ?_⟩
                · rintro L a1 w1 hT - - ⟨h10, -⟩   -- 0: Op.move t10
                  have e10 : a1.tmps.getD 10 undef = _ := h10
                  have f10 := getD_form e10
                  clear h10
                  go_simp; exact left_intro rfl (Stp.refl _) trivial
                refine ⟨?_, ?_⟩
                · rintro L a1 w1 hT - - ⟨h84, -⟩   -- 1: Op.unOp UnOp.not 4 t84
                  have e84 : a1.tmps.getD 84 undef = _ := h84
                  have f84 := getD_form e84
                  clear h84
                  go_simp; exact left_intro rfl (Stp.refl _) trivial
                refine ⟨?_, ?_⟩
                · rintro L a1 w1 hT - - ⟨h85, -⟩   -- 2: Op.move t85
                  have e85 : a1.tmps.getD 85 undef = _ := h85
                  have f85 := getD_form e85
                  clear h85
                  go_simp; exact left_intro rfl (Stp.refl _) trivial
                refine ⟨?_, ?_⟩
                · rintro L a1 w1 hT - - ⟨h5, h86, -⟩   -- 3: Op.move t5
                  have e5 : a1.tmps.getD 5 undef = _ := h5
                  have f5 := getD_form e5
                  have e86 : a1.tmps.getD 86 undef = _ := h86
                  have f86 := getD_form e86
                  clear h5 h86
                  refine ⟨false, 86, by rfl, e86, ?_⟩; rw [if_pos rfl]
                  go_simp; exact left_intro rfl (Stp.refl _) trivial
                refine ⟨?_, ?_⟩
                · rintro L a1 w1 hT - - ⟨h87, h86, -⟩   -- 4: Op.call { value (Operand.func 44), args := #[t87], argTypes := #[58] }
                  have e87 : a1.tmps.getD 87 undef = _ := h87
                  have f87 := getD_form e87
                  have e86 : a1.tmps.getD 86 undef = _ := h86
                  have f86 := getD_form e86
                  clear h87 h86
                  refine ⟨false, 86, by rfl, e86, ?_⟩; rw [if_pos rfl]
                  have kT := k5d.at_ hT
                  go_simp; go_at_call 44; (with_reducible refine (DD.out _ kT).mono ?_); rintro e w2 ⟨rfl, rfl⟩; exact left_intro rfl (Stp.refl _) trivial
                refine ⟨?_, ?_⟩
                · rintro L a1 w1 hT - - ⟨h6, h86, -⟩   -- 5: Op.fieldAddr 76 t6 2
                  have e6 : a1.tmps.getD 6 undef = _ := h6
                  have f6 := getD_form e6
                  have e86 : a1.tmps.getD 86 undef = _ := h86
                  have f86 := getD_form e86
                  clear h6 h86
                  refine ⟨false, 86, by rfl, e86, ?_⟩; rw [if_pos rfl]
                  go_simp; exact left_intro rfl (Stp.refl _) trivial
                refine ⟨?_, ?_⟩
                · rintro L a1 w1 hT - - ⟨h89, h86, -⟩   -- 6: Op.load 4 t89
                  have e89 : a1.tmps.getD 89 undef = _ := h89
                  have f89 := getD_form e89
                  have e86 : a1.tmps.getD 86 undef = _ := h86
                  have f86 := getD_form e86
                  clear h89 h86
                  refine ⟨false, 86, by rfl, e86, ?_⟩; rw [if_pos rfl]
                  have c62 := (X5d.at_ hT).cellv (i := 2) rfl
                  go_simp; exact left_intro rfl (Stp.refl _) trivial
                refine ⟨?_, ?_⟩
                · rintro L a1 w1 hT - - ⟨h88, h90, h86, -⟩   -- 7: Op.binOp BinOp.neq 4 t88 t90 4
                  have e88 : a1.tmps.getD 88 undef = _ := h88
                  have f88 := getD_form e88
                  have e90 : a1.tmps.getD 90 undef = _ := h90
                  have f90 := getD_form e90
                  have e86 : a1.tmps.getD 86 undef = _ := h86
                  have f86 := getD_form e86
                  clear h88 h90 h86
                  refine ⟨false, 86, by rfl, e86, ?_⟩; rw [if_pos rfl]
                  go_simp; exact left_intro rfl (Stp.refl _) trivial
                refine ⟨?_, ?_⟩
                · rintro L a1 w1 hT - - ⟨h86, h91, -⟩   -- 8: Op.pick t86 (const (Value.bool true)) t91
                  have e86 : a1.tmps.getD 86 undef = _ := h86
                  have f86 := getD_form e86
                  have e91 : a1.tmps.getD 91 undef = _ := h91
                  have f91 := getD_form e91
                  clear h86 h91
                  go_simp; exact left_intro rfl (Stp.refl _) trivial
                refine ⟨?_, ?_⟩
                · rintro L a1 w1 hT - - ⟨h92, -⟩   -- 9: Op.move t92
                  have e92 : a1.tmps.getD 92 undef = _ := h92
                  have f92 := getD_form e92
                  clear h92
                  go_simp; exact left_intro rfl (Stp.refl _) trivial
                refine ⟨?_, ?_⟩
                · rintro L a1 w1 hT - - ⟨h5, h93, -⟩   -- 10: Op.move t5
                  have e5 : a1.tmps.getD 5 undef = _ := h5
                  have f5 := getD_form e5
                  have e93 : a1.tmps.getD 93 undef = _ := h93
                  have f93 := getD_form e93
                  clear h5 h93
                  refine ⟨false, 93, by rfl, e93, ?_⟩; rw [if_pos rfl]
                  go_simp; exact left_intro rfl (Stp.refl _) trivial
                refine ⟨?_, ?_⟩
                · rintro L a1 w1 hT - - ⟨h94, h93, -⟩   -- 11: Op.call { value (Operand.func 46), args := #[t94], argTypes := #[58] }
                  have e94 : a1.tmps.getD 94 undef = _ := h94
                  have f94 := getD_form e94
                  have e93 : a1.tmps.getD 93 undef = _ := h93
                  have f93 := getD_form e93
                  clear h94 h93
                  refine ⟨false, 93, by rfl, e93, ?_⟩; rw [if_pos rfl]
                  have kT := k5d.at_ hT
                  go_simp; go_at_call 46; (with_reducible refine (UU.out _ kT).mono ?_); rintro e w2 ⟨rfl, hb⟩; exact left_intro rfl (Stp.of hb) trivial
                refine ⟨?_, ?_⟩
                · rintro L a1 w1 hT - - ⟨h6, h93, -⟩   -- 12: Op.load 76 t6
                  have e6 : a1.tmps.getD 6 undef = _ := h6
                  have f6 := getD_form e6
                  have e93 : a1.tmps.getD 93 undef = _ := h93
                  have f93 := getD_form e93
                  clear h6 h93
                  refine ⟨false, 93, by rfl, e93, ?_⟩; rw [if_pos rfl]
                  obtain ⟨c60, c61, c62, c63, -, -, -, -⟩ := free4 (X5d.at_ hT)
                  go_simp; exact left_intro rfl (Stp.refl _) trivial
                refine ⟨?_, ?_⟩
                · rintro L a1 w1 hT - - ⟨h96, h93, -⟩   -- 13: Op.call { value (Operand.func 53), args := #[t96], argTypes := #[76] }
                  have e96 : a1.tmps.getD 96 undef = _ := h96
                  have f96 := getD_form e96
                  have e93 : a1.tmps.getD 93 undef = _ := h93
                  have f93 := getD_form e93
                  clear h96 h93
                  refine ⟨false, 93, by rfl, e93, ?_⟩; rw [if_pos rfl]
                  have hrT := fread_row (FRow.at_ row5d hT)
                  go_simp; go_at_call 53; (with_reducible refine (RU.out _ hrT).mono ?_); rintro e w2 ⟨rfl, hb⟩; exact left_intro rfl (Stp.of hb) trivial
                refine ⟨?_, ?_⟩
                · rintro L a1 w1 hT - - ⟨h95, h97, h93, -⟩   -- 14: Op.binOp BinOp.neq 3 t95 t97 3
                  have e95 : a1.tmps.getD 95 undef = _ := h95
                  have f95 := getD_form e95
                  have e97 : a1.tmps.getD 97 undef = _ := h97
                  have f97 := getD_form e97
                  have e93 : a1.tmps.getD 93 undef = _ := h93
                  have f93 := getD_form e93
                  clear h95 h97 h93
                  refine ⟨false, 93, by rfl, e93, ?_⟩; rw [if_pos rfl]
                  go_simp; exact left_intro rfl (Stp.refl _) trivial
                refine ⟨?_, ?_⟩
                · rintro L a1 w1 hT - - ⟨h93, h98, -⟩   -- 15: Op.pick t93 (const (Value.bool true)) t98
                  have e93 : a1.tmps.getD 93 undef = _ := h93
                  have f93 := getD_form e93
                  have e98 : a1.tmps.getD 98 undef = _ := h98
                  have f98 := getD_form e98
                  clear h93 h98
                  go_simp; exact left_intro rfl (Stp.refl _) trivial
                refine ⟨?_, ?_⟩
                · rintro L a1 w1 hT - - ⟨h99, -⟩   -- 16: Op.move t99
                  have e99 : a1.tmps.getD 99 undef = _ := h99
                  have f99 := getD_form e99
                  clear h99
                  go_simp; exact left_intro rfl (Stp.refl _) trivial
                refine ⟨?_, ?_⟩
                · rintro L a1 w1 hT - - ⟨h5, h100, -⟩   -- 17: Op.move t5
                  have e5 : a1.tmps.getD 5 undef = _ := h5
                  have f5 := getD_form e5
                  have e100 : a1.tmps.getD 100 undef = _ := h100
                  have f100 := getD_form e100
                  clear h5 h100
                  refine ⟨false, 100, by rfl, e100, ?_⟩; rw [if_pos rfl]
                  go_simp; exact left_intro rfl (Stp.refl _) trivial
                refine ⟨?_, ?_⟩
                · rintro L a1 w1 hT - - ⟨h101, h100, -⟩   -- 18: Op.call { value (Operand.func 55), args := #[t101], argTypes := #[58] }
                  have e101 : a1.tmps.getD 101 undef = _ := h101
                  have f101 := getD_form e101
                  have e100 : a1.tmps.getD 100 undef = _ := h100
                  have f100 := getD_form e100
                  clear h101 h100
                  refine ⟨false, 100, by rfl, e100, ?_⟩; rw [if_pos rfl]
                  have kT := k5d.at_ hT
                  go_simp; go_at_call 55; (with_reducible refine (LL.out _ kT).mono ?_); rintro e w2 ⟨vl, rfl, rowl, hb⟩; exact left_intro (T := Stp) (Ph := fun _ _ _ => True) (show rowS _ _ _ from ⟨_, rfl, rowl⟩) (Stp.of hb) trivial
                refine ⟨?_, ?_⟩
                · rintro L a1 w1 hT - - ⟨h11, h100, -⟩   -- 19: Op.move t11
                  have e11 : a1.tmps.getD 11 undef = _ := h11
                  have f11 := getD_form e11
                  have e100 : a1.tmps.getD 100 undef = _ := h100
                  have f100 := getD_form e100
                  clear h11 h100
                  refine ⟨false, 100, by rfl, e100, ?_⟩; rw [if_pos rfl]
                  go_simp; exact left_intro rfl (Stp.refl _) trivial
                refine ⟨?_, ?_⟩
                · rintro L a1 w1 hT - - ⟨h102, h103, h100, -⟩   -- 20: Op.call { value (Operand.func 54), args := #[t102, t103], argTypes := #[35, 35] }
                  obtain ⟨b102, e102, B102⟩ : (rowS (([] : List (List UInt8)))) (a1.tmps.getD 102 undef) w1 := h102
                  have f102 := getD_form e102
                  have e103 : a1.tmps.getD 103 undef = _ := h103
                  have f103 := getD_form e103
                  have e100 : a1.tmps.getD 100 undef = _ := h100
                  have f100 := getD_form e100
                  clear h103 h100
                  refine ⟨false, 100, by rfl, e100, ?_⟩; rw [if_pos rfl]
                  have hq1 := B102.reads
                  have hq2 := (NRd.at_ hT).reads
                  go_simp; go_at_call 54; (with_reducible refine (SM.out _ _ _ hq1 hq2).mono ?_); rintro e w2 ⟨rfl, nq, rfl⟩; exact left_intro rfl (Stp.of (below_drewN (Below.refl _ _) nq)) trivial
                refine ⟨?_, ?_⟩
                · rintro L a1 w1 hT - - ⟨h104, h100, -⟩   -- 21: Op.unOp UnOp.not 4 t104
                  have e104 : a1.tmps.getD 104 undef = _ := h104
                  have f104 := getD_form e104
                  have e100 : a1.tmps.getD 100 undef = _ := h100
                  have f100 := getD_form e100
                  clear h104 h100
                  refine ⟨false, 100, by rfl, e100, ?_⟩; rw [if_pos rfl]
                  go_simp; exact left_intro rfl (Stp.refl _) trivial
                refine ⟨?_, ?_⟩
                · rintro L a1 w1 hT - - ⟨h100, h105, -⟩   -- 22: Op.pick t100 (const (Value.bool true)) t105
                  have e100 : a1.tmps.getD 100 undef = _ := h100
                  have f100 := getD_form e100
                  have e105 : a1.tmps.getD 105 undef = _ := h105
                  have f105 := getD_form e105
                  clear h100 h105
                  go_simp; exact left_intro rfl (Stp.refl _) trivial
                refine ⟨?_, ?_⟩
                · rintro L a1 w1 hT - - ⟨h106, -⟩   -- 23: Op.move t106
                  have e106 : a1.tmps.getD 106 undef = _ := h106
                  have f106 := getD_form e106
                  clear h106
                  go_simp; exact left_intro rfl (Stp.refl _) trivial
                refine ⟨?_, ?_⟩
                · rintro L a1 w1 hT - - ⟨h15, h107, -⟩   -- 24: Op.move t15
                  have e15 : a1.tmps.getD 15 undef = _ := h15
                  have f15 := getD_form e15
                  have e107 : a1.tmps.getD 107 undef = _ := h107
                  have f107 := getD_form e107
                  clear h15 h107
                  refine ⟨false, 107, by rfl, e107, ?_⟩; rw [if_pos rfl]
                  go_simp; exact left_intro rfl (Stp.refl _) trivial
                refine ⟨?_, ?_⟩
                · rintro L a1 w1 hT - - ⟨h18, h107, -⟩   -- 25: Op.move t18
                  have e18 : a1.tmps.getD 18 undef = _ := h18
                  have f18 := getD_form e18
                  have e107 : a1.tmps.getD 107 undef = _ := h107
                  have f107 := getD_form e107
                  clear h18 h107
                  refine ⟨false, 107, by rfl, e107, ?_⟩; rw [if_pos rfl]
                  go_simp; exact left_intro rfl (Stp.refl _) trivial
                refine ⟨?_, ?_⟩
                · rintro L a1 w1 hT - - ⟨h108, h109, h107, -⟩   -- 26: Op.binOp BinOp.neq 23 t108 t109 23
                  have e108 : a1.tmps.getD 108 undef = _ := h108
                  have f108 := getD_form e108
                  have e109 : a1.tmps.getD 109 undef = _ := h109
                  have f109 := getD_form e109
                  have e107 : a1.tmps.getD 107 undef = _ := h107
                  have f107 := getD_form e107
                  clear h108 h109 h107
                  refine ⟨false, 107, by rfl, e107, ?_⟩; rw [if_pos rfl]
                  go_simp; exact left_intro rfl (Stp.refl _) trivial
                refine ⟨?_, ?_⟩
                · rintro L a1 w1 hT - - ⟨h107, h110, -⟩   -- 27: Op.pick t107 (const (Value.bool true)) t110
                  have e107 : a1.tmps.getD 107 undef = _ := h107
                  have f107 := getD_form e107
                  have e110 : a1.tmps.getD 110 undef = _ := h110
                  have f110 := getD_form e110
                  clear h107 h110
                  go_simp; exact left_intro rfl (Stp.refl _) trivial
                refine ⟨?_, ?_⟩
                · rintro L a1 w1 hT - - ⟨h111, -⟩   -- 28: Op.move t111
                  have e111 : a1.tmps.getD 111 undef = _ := h111
                  have f111 := getD_form e111
                  clear h111
                  go_simp; exact left_intro rfl (Stp.refl _) trivial
                refine ⟨?_, ?_⟩
                · rintro L a1 w1 hT - - ⟨h14, h112, -⟩   -- 29: Op.move t14
                  have e14 : a1.tmps.getD 14 undef = _ := h14
                  have f14 := getD_form e14
                  have e112 : a1.tmps.getD 112 undef = _ := h112
                  have f112 := getD_form e112
                  clear h14 h112
                  refine ⟨false, 112, by rfl, e112, ?_⟩; rw [if_pos rfl]
                  go_simp; exact left_intro rfl (Stp.refl _) trivial
                refine ⟨?_, ?_⟩
                · rintro L a1 w1 hT - - ⟨h16, h112, -⟩   -- 30: Op.fieldAddr 81 t16 1
                  have e16 : a1.tmps.getD 16 undef = _ := h16
                  have f16 := getD_form e16
                  have e112 : a1.tmps.getD 112 undef = _ := h112
                  have f112 := getD_form e112
                  clear h16 h112
                  refine ⟨false, 112, by rfl, e112, ?_⟩; rw [if_pos rfl]
                  go_simp; exact left_intro rfl (Stp.refl _) trivial
                refine ⟨?_, ?_⟩
                · rintro L a1 w1 hT - - ⟨h114, h112, -⟩   -- 31: Op.load 9 t114
                  have e114 : a1.tmps.getD 114 undef = _ := h114
                  have f114 := getD_form e114
                  have e112 : a1.tmps.getD 112 undef = _ := h112
                  have f112 := getD_form e112
                  clear h114 h112
                  refine ⟨false, 112, by rfl, e112, ?_⟩; rw [if_pos rfl]
                  have c71 := (F5d.at_ hT).cellv (i := 1) rfl
                  go_simp; exact left_intro rfl (Stp.refl _) trivial
                refine ⟨?_, ?_⟩
                · rintro L a1 w1 hT - - ⟨h113, h115, h112, -⟩   -- 32: Op.binOp BinOp.neq 9 t113 t115 9
                  have e113 : a1.tmps.getD 113 undef = _ := h113
                  have f113 := getD_form e113
                  have e115 : a1.tmps.getD 115 undef = _ := h115
                  have f115 := getD_form e115
                  have e112 : a1.tmps.getD 112 undef = _ := h112
                  have f112 := getD_form e112
                  clear h113 h115 h112
                  refine ⟨false, 112, by rfl, e112, ?_⟩; rw [if_pos rfl]
                  go_simp; exact left_intro rfl (Stp.refl _) trivial
                refine ⟨?_, ?_⟩
                · rintro L a1 w1 hT - - ⟨h112, h116, -⟩   -- 33: Op.pick t112 (const (Value.bool true)) t116
                  have e112 : a1.tmps.getD 112 undef = _ := h112
                  have f112 := getD_form e112
                  have e116 : a1.tmps.getD 116 undef = _ := h116
                  have f116 := getD_form e116
                  clear h112 h116
                  go_simp; exact left_intro rfl (Stp.refl _) trivial
                trivial
              case hmono => repeat (first | exact trivial | refine ⟨fun _ _ _ _ h => h, ?_⟩ | refine ⟨mono_blkRow _ _ _ _, ?_⟩ | refine ⟨mono_rowS _, ?_⟩)
              case hend =>
                intro w2 hT
                rintro _ rfl _ rfl _ rfl _ rfl _ rfl _ rfl _ rfl _ rfl _ rfl _ rfl _ rfl _ rfl _ rfl _ rfl _ rfl _ rfl _ rfl _ rfl v102 hb102 _ rfl _ rfl _ rfl _ rfl _ rfl _ rfl _ rfl _ rfl _ rfl _ rfl _ rfl _ rfl _ rfl _ rfl _ rfl
                simp only [relEnd, Act.put, List.setIfInBounds_toArray, List.set_cons_succ, List.set_cons_zero]
                have X6 := X5.at_ hT
                have k6 := k5.at_ hT
                have row6 := FRow.at_ row5 hT
                have B6 := B5.trans (Below.mono hT B5.size)
                clear hb102 hT
                go_wp2
                go_roundw
                case rel => exact ⟨k + 1, room1, fuse1, true, l1, A1, c1, by omega, by omega, by rfl, k6, X6, row6, hul1, B6⟩
                case measure => simp [intOf]; omega
          | false =>
            cases hf : D.fnd D.Fl.name name l1 with
            | none =>
              have RF := Lib.hid (show ∀ W (h : FRead W (.slice A1 l1.length c1) l1), Calls Try.prog 52 #[.agg #[.int .i64 room1, .int .i64 fuse1, .bool false, .slice A1 l1.length c1], .string ⟨name.toArray⟩] W fun e w' => e = .returned (.tuple #[.agg #[.string ⟨#[]⟩, .string ⟨#[]⟩, .int .i64 0], .bool false]) ∧ Below W.heap.size W w' from fun W h => by have h9 := RF0 W h; rw [hf] at h9; exact h9)
              have RE := Lib.hid (show ∀ W (h : DkAt w.heap.size W p ⟨room1, fuse1, false, l1⟩), Calls Try.prog 43 #[.pointer (some ⟨p, 0, none⟩), .string ⟨name.toArray⟩] W fun e w' => e = .returned (.tuple #[.string ⟨#[]⟩, .int .i64 7]) ∧ w' = W from fun W h => read_to h name hnm (s := []) (z := 7) (by rw [D.read_none rfl hf]) (by rw [D.read_none rfl hf]; rfl))
              have LL := Lib.hid (fun W (h : DkAt w.heap.size W p ⟨room1, fuse1, false, l1⟩) => dlist_any h)
              have DD := Lib.hid (fun W (h : DkAt w.heap.size W p ⟨room1, fuse1, false, l1⟩) => dead_any h)
              have hDL : D.list ⟨room1, fuse1, false, l1⟩ = NL := by rw [hNL]; rfl
              rw [hDL] at LL
              clear RF0 hf hDL hNL hTm
              go_wp2_with (first | (go_at_call 43; go_loud ((with_reducible refine (RE.out _ k3).mono ?_); rintro e wr ⟨rfl, rfl⟩)) | (go_at_call 52; go_loud ((with_reducible refine (RF.out _ (fread_row row3)).mono ?_); rintro e w4 ⟨rfl, b4⟩; have b4o := b4.alloc b4.size (.cells #[.string ⟨#[]⟩, .string ⟨#[]⟩, .int .i64 0] 81); have b4a := b4.alloc b4.size (.cells #[.string ⟨#[]⟩, .string ⟨#[]⟩, .int .i64 0] 81); have X4 := X3.at_ b4a; have k4 := k3.at_ b4a; have row4 := row3.at_ b4a; have NR4 := hnr.at_ b4a; have B4 := B3.trans (b4a.mono B3.size); have F4 := Blk.new w4 #[.string ⟨#[]⟩, .string ⟨#[]⟩, .int .i64 0] 81; obtain ⟨g40, g41, g42, g43, -, -, -, -⟩ := free4 (X3.at_ b4o))))
              refine wp_world fun W5 hW5 => ?_
              rw [← hW5] at X4 k4 row4 NR4 B4 F4
              have X5 := X4
              have k5 := k4
              have row5 := row4
              have NR5 := NR4
              have B5 := B4
              have F5 := F4
              clear hW5 g40 g41 g42 g43 X4 k4 row4 NR4 B4 F4
              have X5d : Blk W5.drew bx #[.int .i64 room1, .int .i64 fuse1, .bool false, .slice A1 l1.length c1] 76 := X5
              have F5d : Blk W5.drew w4.heap.size #[.string ⟨#[]⟩, .string ⟨#[]⟩, .int .i64 0] 81 := F5
              have k5d : DkAt w.heap.size W5.drew p ⟨room1, fuse1, false, l1⟩ := k5.at_ (show Below W5.heap.size W5 W5.drew from below_drewN (Below.refl _ _) 1)
              have row5d : FRow W5.drew (.slice A1 l1.length c1) l1 := row5
              have NRd : Row1 W5.drew 9 (.slice An mn cn) (NL.map strV) := NR5
              apply wp_region_rel_below [[(10, none)], [(84, some 0)], [(85, some 1)], [(5, none), (86, some 2)], [(87, some 3), (86, some 2)], [(6, none), (86, some 2)], [(89, some 5), (86, some 2)], [(88, some 4), (90, some 6), (86, some 2)], [(86, some 2), (91, some 7)], [(92, some 8)], [(5, none), (93, some 9)], [(94, some 10), (93, some 9)], [(6, none), (93, some 9)], [(96, some 12), (93, some 9)], [(95, some 11), (97, some 13), (93, some 9)], [(93, some 9), (98, some 14)], [(99, some 15)], [(5, none), (100, some 16)], [(101, some 17), (100, some 16)], [(11, none), (100, some 16)], [(102, some 18), (103, some 19), (100, some 16)], [(104, some 20), (100, some 16)], [(100, some 16), (105, some 21)], [(106, some 22)], [(15, none), (107, some 23)], [(18, none), (107, some 23)], [(108, some 24), (109, some 25), (107, some 23)], [(107, some 23), (110, some 26)], [(111, some 27)], [(14, none), (112, some 28)], [(16, none), (112, some 28)], [(114, some 30), (112, some 28)], [(113, some 29), (115, some 31), (112, some 28)], [(112, some 28), (116, some 32)]] [eqv _, eqv _, eqv _, eqv _, eqv _, eqv _, eqv _, eqv _, eqv _, eqv _, eqv _, eqv _, eqv _, eqv _, eqv _, eqv _, eqv _, eqv _, rowS NL, eqv _, eqv _, eqv _, eqv _, eqv _, eqv _, eqv _, eqv _, eqv _, eqv _, eqv _, eqv _, eqv _, eqv _, eqv _] (by kernel_rfl) (by kernel_rfl)
              case hobs =>
                refine ⟨?_, ?_⟩
                · rintro L a1 w1 hT - - ⟨h10, -⟩   -- 0: Op.move t10
                  have e10 : a1.tmps.getD 10 undef = _ := h10
                  have f10 := getD_form e10
                  clear h10
                  go_simp; exact left_intro rfl (Stp.refl _) trivial
                refine ⟨?_, ?_⟩
                · rintro L a1 w1 hT - - ⟨h84, -⟩   -- 1: Op.unOp UnOp.not 4 t84
                  have e84 : a1.tmps.getD 84 undef = _ := h84
                  have f84 := getD_form e84
                  clear h84
                  go_simp; exact left_intro rfl (Stp.refl _) trivial
                refine ⟨?_, ?_⟩
                · rintro L a1 w1 hT - - ⟨h85, -⟩   -- 2: Op.move t85
                  have e85 : a1.tmps.getD 85 undef = _ := h85
                  have f85 := getD_form e85
                  clear h85
                  go_simp; exact left_intro rfl (Stp.refl _) trivial
                refine ⟨?_, ?_⟩
                · rintro L a1 w1 hT - - ⟨h5, h86, -⟩   -- 3: Op.move t5
                  have e5 : a1.tmps.getD 5 undef = _ := h5
                  have f5 := getD_form e5
                  have e86 : a1.tmps.getD 86 undef = _ := h86
                  have f86 := getD_form e86
                  clear h5 h86
                  refine ⟨false, 86, by rfl, e86, ?_⟩; rw [if_pos rfl]
                  go_simp; exact left_intro rfl (Stp.refl _) trivial
                refine ⟨?_, ?_⟩
                · rintro L a1 w1 hT - - ⟨h87, h86, -⟩   -- 4: Op.call { value (Operand.func 44), args := #[t87], argTypes := #[58] }
                  have e87 : a1.tmps.getD 87 undef = _ := h87
                  have f87 := getD_form e87
                  have e86 : a1.tmps.getD 86 undef = _ := h86
                  have f86 := getD_form e86
                  clear h87 h86
                  refine ⟨false, 86, by rfl, e86, ?_⟩; rw [if_pos rfl]
                  have kT := k5d.at_ hT
                  go_simp; go_at_call 44; (with_reducible refine (DD.out _ kT).mono ?_); rintro e w2 ⟨rfl, rfl⟩; exact left_intro rfl (Stp.refl _) trivial
                refine ⟨?_, ?_⟩
                · rintro L a1 w1 hT - - ⟨h6, h86, -⟩   -- 5: Op.fieldAddr 76 t6 2
                  have e6 : a1.tmps.getD 6 undef = _ := h6
                  have f6 := getD_form e6
                  have e86 : a1.tmps.getD 86 undef = _ := h86
                  have f86 := getD_form e86
                  clear h6 h86
                  refine ⟨false, 86, by rfl, e86, ?_⟩; rw [if_pos rfl]
                  go_simp; exact left_intro rfl (Stp.refl _) trivial
                refine ⟨?_, ?_⟩
                · rintro L a1 w1 hT - - ⟨h89, h86, -⟩   -- 6: Op.load 4 t89
                  have e89 : a1.tmps.getD 89 undef = _ := h89
                  have f89 := getD_form e89
                  have e86 : a1.tmps.getD 86 undef = _ := h86
                  have f86 := getD_form e86
                  clear h89 h86
                  refine ⟨false, 86, by rfl, e86, ?_⟩; rw [if_pos rfl]
                  have c62 := (X5d.at_ hT).cellv (i := 2) rfl
                  go_simp; exact left_intro rfl (Stp.refl _) trivial
                refine ⟨?_, ?_⟩
                · rintro L a1 w1 hT - - ⟨h88, h90, h86, -⟩   -- 7: Op.binOp BinOp.neq 4 t88 t90 4
                  have e88 : a1.tmps.getD 88 undef = _ := h88
                  have f88 := getD_form e88
                  have e90 : a1.tmps.getD 90 undef = _ := h90
                  have f90 := getD_form e90
                  have e86 : a1.tmps.getD 86 undef = _ := h86
                  have f86 := getD_form e86
                  clear h88 h90 h86
                  refine ⟨false, 86, by rfl, e86, ?_⟩; rw [if_pos rfl]
                  go_simp; exact left_intro rfl (Stp.refl _) trivial
                refine ⟨?_, ?_⟩
                · rintro L a1 w1 hT - - ⟨h86, h91, -⟩   -- 8: Op.pick t86 (const (Value.bool true)) t91
                  have e86 : a1.tmps.getD 86 undef = _ := h86
                  have f86 := getD_form e86
                  have e91 : a1.tmps.getD 91 undef = _ := h91
                  have f91 := getD_form e91
                  clear h86 h91
                  go_simp; exact left_intro rfl (Stp.refl _) trivial
                refine ⟨?_, ?_⟩
                · rintro L a1 w1 hT - - ⟨h92, -⟩   -- 9: Op.move t92
                  have e92 : a1.tmps.getD 92 undef = _ := h92
                  have f92 := getD_form e92
                  clear h92
                  go_simp; exact left_intro rfl (Stp.refl _) trivial
                refine ⟨?_, ?_⟩
                · rintro L a1 w1 hT - - ⟨h5, h93, -⟩   -- 10: Op.move t5
                  have e5 : a1.tmps.getD 5 undef = _ := h5
                  have f5 := getD_form e5
                  have e93 : a1.tmps.getD 93 undef = _ := h93
                  have f93 := getD_form e93
                  clear h5 h93
                  refine ⟨false, 93, by rfl, e93, ?_⟩; rw [if_pos rfl]
                  go_simp; exact left_intro rfl (Stp.refl _) trivial
                refine ⟨?_, ?_⟩
                · rintro L a1 w1 hT - - ⟨h94, h93, -⟩   -- 11: Op.call { value (Operand.func 46), args := #[t94], argTypes := #[58] }
                  have e94 : a1.tmps.getD 94 undef = _ := h94
                  have f94 := getD_form e94
                  have e93 : a1.tmps.getD 93 undef = _ := h93
                  have f93 := getD_form e93
                  clear h94 h93
                  refine ⟨false, 93, by rfl, e93, ?_⟩; rw [if_pos rfl]
                  have kT := k5d.at_ hT
                  go_simp; go_at_call 46; (with_reducible refine (UU.out _ kT).mono ?_); rintro e w2 ⟨rfl, hb⟩; exact left_intro rfl (Stp.of hb) trivial
                refine ⟨?_, ?_⟩
                · rintro L a1 w1 hT - - ⟨h6, h93, -⟩   -- 12: Op.load 76 t6
                  have e6 : a1.tmps.getD 6 undef = _ := h6
                  have f6 := getD_form e6
                  have e93 : a1.tmps.getD 93 undef = _ := h93
                  have f93 := getD_form e93
                  clear h6 h93
                  refine ⟨false, 93, by rfl, e93, ?_⟩; rw [if_pos rfl]
                  obtain ⟨c60, c61, c62, c63, -, -, -, -⟩ := free4 (X5d.at_ hT)
                  go_simp; exact left_intro rfl (Stp.refl _) trivial
                refine ⟨?_, ?_⟩
                · rintro L a1 w1 hT - - ⟨h96, h93, -⟩   -- 13: Op.call { value (Operand.func 53), args := #[t96], argTypes := #[76] }
                  have e96 : a1.tmps.getD 96 undef = _ := h96
                  have f96 := getD_form e96
                  have e93 : a1.tmps.getD 93 undef = _ := h93
                  have f93 := getD_form e93
                  clear h96 h93
                  refine ⟨false, 93, by rfl, e93, ?_⟩; rw [if_pos rfl]
                  have hrT := fread_row (FRow.at_ row5d hT)
                  go_simp; go_at_call 53; (with_reducible refine (RU.out _ hrT).mono ?_); rintro e w2 ⟨rfl, hb⟩; exact left_intro rfl (Stp.of hb) trivial
                refine ⟨?_, ?_⟩
                · rintro L a1 w1 hT - - ⟨h95, h97, h93, -⟩   -- 14: Op.binOp BinOp.neq 3 t95 t97 3
                  have e95 : a1.tmps.getD 95 undef = _ := h95
                  have f95 := getD_form e95
                  have e97 : a1.tmps.getD 97 undef = _ := h97
                  have f97 := getD_form e97
                  have e93 : a1.tmps.getD 93 undef = _ := h93
                  have f93 := getD_form e93
                  clear h95 h97 h93
                  refine ⟨false, 93, by rfl, e93, ?_⟩; rw [if_pos rfl]
                  go_simp; exact left_intro rfl (Stp.refl _) trivial
                refine ⟨?_, ?_⟩
                · rintro L a1 w1 hT - - ⟨h93, h98, -⟩   -- 15: Op.pick t93 (const (Value.bool true)) t98
                  have e93 : a1.tmps.getD 93 undef = _ := h93
                  have f93 := getD_form e93
                  have e98 : a1.tmps.getD 98 undef = _ := h98
                  have f98 := getD_form e98
                  clear h93 h98
                  go_simp; exact left_intro rfl (Stp.refl _) trivial
                refine ⟨?_, ?_⟩
                · rintro L a1 w1 hT - - ⟨h99, -⟩   -- 16: Op.move t99
                  have e99 : a1.tmps.getD 99 undef = _ := h99
                  have f99 := getD_form e99
                  clear h99
                  go_simp; exact left_intro rfl (Stp.refl _) trivial
                refine ⟨?_, ?_⟩
                · rintro L a1 w1 hT - - ⟨h5, h100, -⟩   -- 17: Op.move t5
                  have e5 : a1.tmps.getD 5 undef = _ := h5
                  have f5 := getD_form e5
                  have e100 : a1.tmps.getD 100 undef = _ := h100
                  have f100 := getD_form e100
                  clear h5 h100
                  refine ⟨false, 100, by rfl, e100, ?_⟩; rw [if_pos rfl]
                  go_simp; exact left_intro rfl (Stp.refl _) trivial
                refine ⟨?_, ?_⟩
                · rintro L a1 w1 hT - - ⟨h101, h100, -⟩   -- 18: Op.call { value (Operand.func 55), args := #[t101], argTypes := #[58] }
                  have e101 : a1.tmps.getD 101 undef = _ := h101
                  have f101 := getD_form e101
                  have e100 : a1.tmps.getD 100 undef = _ := h100
                  have f100 := getD_form e100
                  clear h101 h100
                  refine ⟨false, 100, by rfl, e100, ?_⟩; rw [if_pos rfl]
                  have kT := k5d.at_ hT
                  go_simp; go_at_call 55; (with_reducible refine (LL.out _ kT).mono ?_); rintro e w2 ⟨vl, rfl, rowl, hb⟩; exact left_intro (T := Stp) (Ph := fun _ _ _ => True) (show rowS _ _ _ from ⟨_, rfl, rowl⟩) (Stp.of hb) trivial
                refine ⟨?_, ?_⟩
                · rintro L a1 w1 hT - - ⟨h11, h100, -⟩   -- 19: Op.move t11
                  have e11 : a1.tmps.getD 11 undef = _ := h11
                  have f11 := getD_form e11
                  have e100 : a1.tmps.getD 100 undef = _ := h100
                  have f100 := getD_form e100
                  clear h11 h100
                  refine ⟨false, 100, by rfl, e100, ?_⟩; rw [if_pos rfl]
                  go_simp; exact left_intro rfl (Stp.refl _) trivial
                refine ⟨?_, ?_⟩
                · rintro L a1 w1 hT - - ⟨h102, h103, h100, -⟩   -- 20: Op.call { value (Operand.func 54), args := #[t102, t103], argTypes := #[35, 35] }
                  obtain ⟨b102, e102, B102⟩ : (rowS NL) (a1.tmps.getD 102 undef) w1 := h102
                  have f102 := getD_form e102
                  have e103 : a1.tmps.getD 103 undef = _ := h103
                  have f103 := getD_form e103
                  have e100 : a1.tmps.getD 100 undef = _ := h100
                  have f100 := getD_form e100
                  clear h103 h100
                  refine ⟨false, 100, by rfl, e100, ?_⟩; rw [if_pos rfl]
                  have hq1 := B102.reads
                  have hq2 := (NRd.at_ hT).reads
                  go_simp; go_at_call 54; (with_reducible refine (SM.out _ _ _ hq1 hq2).mono ?_); rintro e w2 ⟨rfl, nq, rfl⟩; exact left_intro rfl (Stp.of (below_drewN (Below.refl _ _) nq)) trivial
                refine ⟨?_, ?_⟩
                · rintro L a1 w1 hT - - ⟨h104, h100, -⟩   -- 21: Op.unOp UnOp.not 4 t104
                  have e104 : a1.tmps.getD 104 undef = _ := h104
                  have f104 := getD_form e104
                  have e100 : a1.tmps.getD 100 undef = _ := h100
                  have f100 := getD_form e100
                  clear h104 h100
                  refine ⟨false, 100, by rfl, e100, ?_⟩; rw [if_pos rfl]
                  go_simp; exact left_intro rfl (Stp.refl _) trivial
                refine ⟨?_, ?_⟩
                · rintro L a1 w1 hT - - ⟨h100, h105, -⟩   -- 22: Op.pick t100 (const (Value.bool true)) t105
                  have e100 : a1.tmps.getD 100 undef = _ := h100
                  have f100 := getD_form e100
                  have e105 : a1.tmps.getD 105 undef = _ := h105
                  have f105 := getD_form e105
                  clear h100 h105
                  go_simp; exact left_intro rfl (Stp.refl _) trivial
                refine ⟨?_, ?_⟩
                · rintro L a1 w1 hT - - ⟨h106, -⟩   -- 23: Op.move t106
                  have e106 : a1.tmps.getD 106 undef = _ := h106
                  have f106 := getD_form e106
                  clear h106
                  go_simp; exact left_intro rfl (Stp.refl _) trivial
                refine ⟨?_, ?_⟩
                · rintro L a1 w1 hT - - ⟨h15, h107, -⟩   -- 24: Op.move t15
                  have e15 : a1.tmps.getD 15 undef = _ := h15
                  have f15 := getD_form e15
                  have e107 : a1.tmps.getD 107 undef = _ := h107
                  have f107 := getD_form e107
                  clear h15 h107
                  refine ⟨false, 107, by rfl, e107, ?_⟩; rw [if_pos rfl]
                  go_simp; exact left_intro rfl (Stp.refl _) trivial
                refine ⟨?_, ?_⟩
                · rintro L a1 w1 hT - - ⟨h18, h107, -⟩   -- 25: Op.move t18
                  have e18 : a1.tmps.getD 18 undef = _ := h18
                  have f18 := getD_form e18
                  have e107 : a1.tmps.getD 107 undef = _ := h107
                  have f107 := getD_form e107
                  clear h18 h107
                  refine ⟨false, 107, by rfl, e107, ?_⟩; rw [if_pos rfl]
                  go_simp; exact left_intro rfl (Stp.refl _) trivial
                refine ⟨?_, ?_⟩
                · rintro L a1 w1 hT - - ⟨h108, h109, h107, -⟩   -- 26: Op.binOp BinOp.neq 23 t108 t109 23
                  have e108 : a1.tmps.getD 108 undef = _ := h108
                  have f108 := getD_form e108
                  have e109 : a1.tmps.getD 109 undef = _ := h109
                  have f109 := getD_form e109
                  have e107 : a1.tmps.getD 107 undef = _ := h107
                  have f107 := getD_form e107
                  clear h108 h109 h107
                  refine ⟨false, 107, by rfl, e107, ?_⟩; rw [if_pos rfl]
                  go_simp; exact left_intro rfl (Stp.refl _) trivial
                refine ⟨?_, ?_⟩
                · rintro L a1 w1 hT - - ⟨h107, h110, -⟩   -- 27: Op.pick t107 (const (Value.bool true)) t110
                  have e107 : a1.tmps.getD 107 undef = _ := h107
                  have f107 := getD_form e107
                  have e110 : a1.tmps.getD 110 undef = _ := h110
                  have f110 := getD_form e110
                  clear h107 h110
                  go_simp; exact left_intro rfl (Stp.refl _) trivial
                refine ⟨?_, ?_⟩
                · rintro L a1 w1 hT - - ⟨h111, -⟩   -- 28: Op.move t111
                  have e111 : a1.tmps.getD 111 undef = _ := h111
                  have f111 := getD_form e111
                  clear h111
                  go_simp; exact left_intro rfl (Stp.refl _) trivial
                refine ⟨?_, ?_⟩
                · rintro L a1 w1 hT - - ⟨h14, h112, -⟩   -- 29: Op.move t14
                  have e14 : a1.tmps.getD 14 undef = _ := h14
                  have f14 := getD_form e14
                  have e112 : a1.tmps.getD 112 undef = _ := h112
                  have f112 := getD_form e112
                  clear h14 h112
                  refine ⟨false, 112, by rfl, e112, ?_⟩; rw [if_pos rfl]
                  go_simp; exact left_intro rfl (Stp.refl _) trivial
                refine ⟨?_, ?_⟩
                · rintro L a1 w1 hT - - ⟨h16, h112, -⟩   -- 30: Op.fieldAddr 81 t16 1
                  have e16 : a1.tmps.getD 16 undef = _ := h16
                  have f16 := getD_form e16
                  have e112 : a1.tmps.getD 112 undef = _ := h112
                  have f112 := getD_form e112
                  clear h16 h112
                  refine ⟨false, 112, by rfl, e112, ?_⟩; rw [if_pos rfl]
                  go_simp; exact left_intro rfl (Stp.refl _) trivial
                refine ⟨?_, ?_⟩
                · rintro L a1 w1 hT - - ⟨h114, h112, -⟩   -- 31: Op.load 9 t114
                  have e114 : a1.tmps.getD 114 undef = _ := h114
                  have f114 := getD_form e114
                  have e112 : a1.tmps.getD 112 undef = _ := h112
                  have f112 := getD_form e112
                  clear h114 h112
                  refine ⟨false, 112, by rfl, e112, ?_⟩; rw [if_pos rfl]
                  have c71 := (F5d.at_ hT).cellv (i := 1) rfl
                  go_simp; exact left_intro rfl (Stp.refl _) trivial
                refine ⟨?_, ?_⟩
                · rintro L a1 w1 hT - - ⟨h113, h115, h112, -⟩   -- 32: Op.binOp BinOp.neq 9 t113 t115 9
                  have e113 : a1.tmps.getD 113 undef = _ := h113
                  have f113 := getD_form e113
                  have e115 : a1.tmps.getD 115 undef = _ := h115
                  have f115 := getD_form e115
                  have e112 : a1.tmps.getD 112 undef = _ := h112
                  have f112 := getD_form e112
                  clear h113 h115 h112
                  refine ⟨false, 112, by rfl, e112, ?_⟩; rw [if_pos rfl]
                  go_simp; exact left_intro rfl (Stp.refl _) trivial
                refine ⟨?_, ?_⟩
                · rintro L a1 w1 hT - - ⟨h112, h116, -⟩   -- 33: Op.pick t112 (const (Value.bool true)) t116
                  have e112 : a1.tmps.getD 112 undef = _ := h112
                  have f112 := getD_form e112
                  have e116 : a1.tmps.getD 116 undef = _ := h116
                  have f116 := getD_form e116
                  clear h112 h116
                  go_simp; exact left_intro rfl (Stp.refl _) trivial
                trivial
              case hmono => repeat (first | exact trivial | refine ⟨fun _ _ _ _ h => h, ?_⟩ | refine ⟨mono_blkRow _ _ _ _, ?_⟩ | refine ⟨mono_rowS _, ?_⟩)
              case hend =>
                intro w2 hT
                rintro _ rfl _ rfl _ rfl _ rfl _ rfl _ rfl _ rfl _ rfl _ rfl _ rfl _ rfl _ rfl _ rfl _ rfl _ rfl _ rfl _ rfl _ rfl v102 hb102 _ rfl _ rfl _ rfl _ rfl _ rfl _ rfl _ rfl _ rfl _ rfl _ rfl _ rfl _ rfl _ rfl _ rfl _ rfl
                simp only [relEnd, Act.put, List.setIfInBounds_toArray, List.set_cons_succ, List.set_cons_zero]
                have X6 := X5.at_ hT
                have k6 := k5.at_ hT
                have row6 := FRow.at_ row5 hT
                have B6 := B5.trans (Below.mono hT B5.size)
                clear hb102 hT
                go_wp2
                go_roundw
                case rel => exact ⟨k + 1, room1, fuse1, false, l1, A1, c1, by omega, by omega, by rfl, k6, X6, row6, hul1, B6⟩
                case measure => simp [intOf]; omega
            | some f0 =>
              obtain ⟨fnm, S, fs⟩ := f0
              have RF := Lib.hid (show ∀ W (h : FRead W (.slice A1 l1.length c1) l1), Calls Try.prog 52 #[.agg #[.int .i64 room1, .int .i64 fuse1, .bool false, .slice A1 l1.length c1], .string ⟨name.toArray⟩] W fun e w' => e = .returned (.tuple #[.agg #[.string ⟨fnm.toArray⟩, .string ⟨S.toArray⟩, .int .i64 (fs : Int)], .bool true]) ∧ Below W.heap.size W w' from fun W h => by have h9 := RF0 W h; rw [hf] at h9; exact h9)
              have RE := Lib.hid (fun W (h : DkAt w.heap.size W p ⟨room1, fuse1, false, l1⟩) => read_to h name hnm (s := S) (z := 0) (by rw [D.read_some rfl hf]) (by rw [D.read_some rfl hf]; rfl))
              have LL := Lib.hid (fun W (h : DkAt w.heap.size W p ⟨room1, fuse1, false, l1⟩) => dlist_any h)
              have DD := Lib.hid (fun W (h : DkAt w.heap.size W p ⟨room1, fuse1, false, l1⟩) => dead_any h)
              have hDL : D.list ⟨room1, fuse1, false, l1⟩ = NL := by rw [hNL]; rfl
              rw [hDL] at LL
              clear RF0 hf hDL hNL hTm
              go_wp2_with (first | (go_at_call 43; go_loud ((with_reducible refine (RE.out _ k3).mono ?_); rintro e wr ⟨rfl, rfl⟩)) | (go_at_call 52; go_loud ((with_reducible refine (RF.out _ (fread_row row3)).mono ?_); rintro e w4 ⟨rfl, b4⟩; have b4a := b4.alloc b4.size (.cells #[.string ⟨fnm.toArray⟩, .string ⟨S.toArray⟩, .int .i64 (fs : Int)] 81); have X4 := X3.at_ b4a; have k4 := k3.at_ b4a; have row4 := row3.at_ b4a; have NR4 := hnr.at_ b4a; have B4 := B3.trans (b4a.mono B3.size); have F4 := Blk.new w4 #[.string ⟨fnm.toArray⟩, .string ⟨S.toArray⟩, .int .i64 (fs : Int)] 81; obtain ⟨g40, g41, g42, g43, -, -, -, -⟩ := free4 X4)))
              refine wp_world fun W5 hW5 => ?_
              rw [← hW5] at X4 k4 row4 NR4 B4 F4
              have X5 := X4
              have k5 := k4
              have row5 := row4
              have NR5 := NR4
              have B5 := B4
              have F5 := F4
              clear hW5 g40 g41 g42 g43 X4 k4 row4 NR4 B4 F4
              have X5d : Blk W5.drew bx #[.int .i64 room1, .int .i64 fuse1, .bool false, .slice A1 l1.length c1] 76 := X5
              have F5d : Blk W5.drew w4.heap.size #[.string ⟨fnm.toArray⟩, .string ⟨S.toArray⟩, .int .i64 (fs : Int)] 81 := F5
              have k5d : DkAt w.heap.size W5.drew p ⟨room1, fuse1, false, l1⟩ := k5.at_ (show Below W5.heap.size W5 W5.drew from below_drewN (Below.refl _ _) 1)
              have row5d : FRow W5.drew (.slice A1 l1.length c1) l1 := row5
              have NRd : Row1 W5.drew 9 (.slice An mn cn) (NL.map strV) := NR5
              apply wp_region_rel_below [[(10, none)], [(84, some 0)], [(85, some 1)], [(5, none), (86, some 2)], [(87, some 3), (86, some 2)], [(6, none), (86, some 2)], [(89, some 5), (86, some 2)], [(88, some 4), (90, some 6), (86, some 2)], [(86, some 2), (91, some 7)], [(92, some 8)], [(5, none), (93, some 9)], [(94, some 10), (93, some 9)], [(6, none), (93, some 9)], [(96, some 12), (93, some 9)], [(95, some 11), (97, some 13), (93, some 9)], [(93, some 9), (98, some 14)], [(99, some 15)], [(5, none), (100, some 16)], [(101, some 17), (100, some 16)], [(11, none), (100, some 16)], [(102, some 18), (103, some 19), (100, some 16)], [(104, some 20), (100, some 16)], [(100, some 16), (105, some 21)], [(106, some 22)], [(15, none), (107, some 23)], [(18, none), (107, some 23)], [(108, some 24), (109, some 25), (107, some 23)], [(107, some 23), (110, some 26)], [(111, some 27)], [(14, none), (112, some 28)], [(16, none), (112, some 28)], [(114, some 30), (112, some 28)], [(113, some 29), (115, some 31), (112, some 28)], [(112, some 28), (116, some 32)]] [eqv _, eqv _, eqv _, eqv _, eqv _, eqv _, eqv _, eqv _, eqv _, eqv _, eqv _, eqv _, eqv _, eqv _, eqv _, eqv _, eqv _, eqv _, rowS NL, eqv _, eqv _, eqv _, eqv _, eqv _, eqv _, eqv _, eqv _, eqv _, eqv _, eqv _, eqv _, eqv _, eqv _, eqv _] (by kernel_rfl) (by kernel_rfl)
              case hobs =>
                refine ⟨?_, ?_⟩
                · rintro L a1 w1 hT - - ⟨h10, -⟩   -- 0: Op.move t10
                  have e10 : a1.tmps.getD 10 undef = _ := h10
                  have f10 := getD_form e10
                  clear h10
                  go_simp; exact left_intro rfl (Stp.refl _) trivial
                refine ⟨?_, ?_⟩
                · rintro L a1 w1 hT - - ⟨h84, -⟩   -- 1: Op.unOp UnOp.not 4 t84
                  have e84 : a1.tmps.getD 84 undef = _ := h84
                  have f84 := getD_form e84
                  clear h84
                  go_simp; exact left_intro rfl (Stp.refl _) trivial
                refine ⟨?_, ?_⟩
                · rintro L a1 w1 hT - - ⟨h85, -⟩   -- 2: Op.move t85
                  have e85 : a1.tmps.getD 85 undef = _ := h85
                  have f85 := getD_form e85
                  clear h85
                  go_simp; exact left_intro rfl (Stp.refl _) trivial
                refine ⟨?_, ?_⟩
                · rintro L a1 w1 hT - - ⟨h5, h86, -⟩   -- 3: Op.move t5
                  have e5 : a1.tmps.getD 5 undef = _ := h5
                  have f5 := getD_form e5
                  have e86 : a1.tmps.getD 86 undef = _ := h86
                  have f86 := getD_form e86
                  clear h5 h86
                  refine ⟨false, 86, by rfl, e86, ?_⟩; rw [if_pos rfl]
                  go_simp; exact left_intro rfl (Stp.refl _) trivial
                refine ⟨?_, ?_⟩
                · rintro L a1 w1 hT - - ⟨h87, h86, -⟩   -- 4: Op.call { value (Operand.func 44), args := #[t87], argTypes := #[58] }
                  have e87 : a1.tmps.getD 87 undef = _ := h87
                  have f87 := getD_form e87
                  have e86 : a1.tmps.getD 86 undef = _ := h86
                  have f86 := getD_form e86
                  clear h87 h86
                  refine ⟨false, 86, by rfl, e86, ?_⟩; rw [if_pos rfl]
                  have kT := k5d.at_ hT
                  go_simp; go_at_call 44; (with_reducible refine (DD.out _ kT).mono ?_); rintro e w2 ⟨rfl, rfl⟩; exact left_intro rfl (Stp.refl _) trivial
                refine ⟨?_, ?_⟩
                · rintro L a1 w1 hT - - ⟨h6, h86, -⟩   -- 5: Op.fieldAddr 76 t6 2
                  have e6 : a1.tmps.getD 6 undef = _ := h6
                  have f6 := getD_form e6
                  have e86 : a1.tmps.getD 86 undef = _ := h86
                  have f86 := getD_form e86
                  clear h6 h86
                  refine ⟨false, 86, by rfl, e86, ?_⟩; rw [if_pos rfl]
                  go_simp; exact left_intro rfl (Stp.refl _) trivial
                refine ⟨?_, ?_⟩
                · rintro L a1 w1 hT - - ⟨h89, h86, -⟩   -- 6: Op.load 4 t89
                  have e89 : a1.tmps.getD 89 undef = _ := h89
                  have f89 := getD_form e89
                  have e86 : a1.tmps.getD 86 undef = _ := h86
                  have f86 := getD_form e86
                  clear h89 h86
                  refine ⟨false, 86, by rfl, e86, ?_⟩; rw [if_pos rfl]
                  have c62 := (X5d.at_ hT).cellv (i := 2) rfl
                  go_simp; exact left_intro rfl (Stp.refl _) trivial
                refine ⟨?_, ?_⟩
                · rintro L a1 w1 hT - - ⟨h88, h90, h86, -⟩   -- 7: Op.binOp BinOp.neq 4 t88 t90 4
                  have e88 : a1.tmps.getD 88 undef = _ := h88
                  have f88 := getD_form e88
                  have e90 : a1.tmps.getD 90 undef = _ := h90
                  have f90 := getD_form e90
                  have e86 : a1.tmps.getD 86 undef = _ := h86
                  have f86 := getD_form e86
                  clear h88 h90 h86
                  refine ⟨false, 86, by rfl, e86, ?_⟩; rw [if_pos rfl]
                  go_simp; exact left_intro rfl (Stp.refl _) trivial
                refine ⟨?_, ?_⟩
                · rintro L a1 w1 hT - - ⟨h86, h91, -⟩   -- 8: Op.pick t86 (const (Value.bool true)) t91
                  have e86 : a1.tmps.getD 86 undef = _ := h86
                  have f86 := getD_form e86
                  have e91 : a1.tmps.getD 91 undef = _ := h91
                  have f91 := getD_form e91
                  clear h86 h91
                  go_simp; exact left_intro rfl (Stp.refl _) trivial
                refine ⟨?_, ?_⟩
                · rintro L a1 w1 hT - - ⟨h92, -⟩   -- 9: Op.move t92
                  have e92 : a1.tmps.getD 92 undef = _ := h92
                  have f92 := getD_form e92
                  clear h92
                  go_simp; exact left_intro rfl (Stp.refl _) trivial
                refine ⟨?_, ?_⟩
                · rintro L a1 w1 hT - - ⟨h5, h93, -⟩   -- 10: Op.move t5
                  have e5 : a1.tmps.getD 5 undef = _ := h5
                  have f5 := getD_form e5
                  have e93 : a1.tmps.getD 93 undef = _ := h93
                  have f93 := getD_form e93
                  clear h5 h93
                  refine ⟨false, 93, by rfl, e93, ?_⟩; rw [if_pos rfl]
                  go_simp; exact left_intro rfl (Stp.refl _) trivial
                refine ⟨?_, ?_⟩
                · rintro L a1 w1 hT - - ⟨h94, h93, -⟩   -- 11: Op.call { value (Operand.func 46), args := #[t94], argTypes := #[58] }
                  have e94 : a1.tmps.getD 94 undef = _ := h94
                  have f94 := getD_form e94
                  have e93 : a1.tmps.getD 93 undef = _ := h93
                  have f93 := getD_form e93
                  clear h94 h93
                  refine ⟨false, 93, by rfl, e93, ?_⟩; rw [if_pos rfl]
                  have kT := k5d.at_ hT
                  go_simp; go_at_call 46; (with_reducible refine (UU.out _ kT).mono ?_); rintro e w2 ⟨rfl, hb⟩; exact left_intro rfl (Stp.of hb) trivial
                refine ⟨?_, ?_⟩
                · rintro L a1 w1 hT - - ⟨h6, h93, -⟩   -- 12: Op.load 76 t6
                  have e6 : a1.tmps.getD 6 undef = _ := h6
                  have f6 := getD_form e6
                  have e93 : a1.tmps.getD 93 undef = _ := h93
                  have f93 := getD_form e93
                  clear h6 h93
                  refine ⟨false, 93, by rfl, e93, ?_⟩; rw [if_pos rfl]
                  obtain ⟨c60, c61, c62, c63, -, -, -, -⟩ := free4 (X5d.at_ hT)
                  go_simp; exact left_intro rfl (Stp.refl _) trivial
                refine ⟨?_, ?_⟩
                · rintro L a1 w1 hT - - ⟨h96, h93, -⟩   -- 13: Op.call { value (Operand.func 53), args := #[t96], argTypes := #[76] }
                  have e96 : a1.tmps.getD 96 undef = _ := h96
                  have f96 := getD_form e96
                  have e93 : a1.tmps.getD 93 undef = _ := h93
                  have f93 := getD_form e93
                  clear h96 h93
                  refine ⟨false, 93, by rfl, e93, ?_⟩; rw [if_pos rfl]
                  have hrT := fread_row (FRow.at_ row5d hT)
                  go_simp; go_at_call 53; (with_reducible refine (RU.out _ hrT).mono ?_); rintro e w2 ⟨rfl, hb⟩; exact left_intro rfl (Stp.of hb) trivial
                refine ⟨?_, ?_⟩
                · rintro L a1 w1 hT - - ⟨h95, h97, h93, -⟩   -- 14: Op.binOp BinOp.neq 3 t95 t97 3
                  have e95 : a1.tmps.getD 95 undef = _ := h95
                  have f95 := getD_form e95
                  have e97 : a1.tmps.getD 97 undef = _ := h97
                  have f97 := getD_form e97
                  have e93 : a1.tmps.getD 93 undef = _ := h93
                  have f93 := getD_form e93
                  clear h95 h97 h93
                  refine ⟨false, 93, by rfl, e93, ?_⟩; rw [if_pos rfl]
                  go_simp; exact left_intro rfl (Stp.refl _) trivial
                refine ⟨?_, ?_⟩
                · rintro L a1 w1 hT - - ⟨h93, h98, -⟩   -- 15: Op.pick t93 (const (Value.bool true)) t98
                  have e93 : a1.tmps.getD 93 undef = _ := h93
                  have f93 := getD_form e93
                  have e98 : a1.tmps.getD 98 undef = _ := h98
                  have f98 := getD_form e98
                  clear h93 h98
                  go_simp; exact left_intro rfl (Stp.refl _) trivial
                refine ⟨?_, ?_⟩
                · rintro L a1 w1 hT - - ⟨h99, -⟩   -- 16: Op.move t99
                  have e99 : a1.tmps.getD 99 undef = _ := h99
                  have f99 := getD_form e99
                  clear h99
                  go_simp; exact left_intro rfl (Stp.refl _) trivial
                refine ⟨?_, ?_⟩
                · rintro L a1 w1 hT - - ⟨h5, h100, -⟩   -- 17: Op.move t5
                  have e5 : a1.tmps.getD 5 undef = _ := h5
                  have f5 := getD_form e5
                  have e100 : a1.tmps.getD 100 undef = _ := h100
                  have f100 := getD_form e100
                  clear h5 h100
                  refine ⟨false, 100, by rfl, e100, ?_⟩; rw [if_pos rfl]
                  go_simp; exact left_intro rfl (Stp.refl _) trivial
                refine ⟨?_, ?_⟩
                · rintro L a1 w1 hT - - ⟨h101, h100, -⟩   -- 18: Op.call { value (Operand.func 55), args := #[t101], argTypes := #[58] }
                  have e101 : a1.tmps.getD 101 undef = _ := h101
                  have f101 := getD_form e101
                  have e100 : a1.tmps.getD 100 undef = _ := h100
                  have f100 := getD_form e100
                  clear h101 h100
                  refine ⟨false, 100, by rfl, e100, ?_⟩; rw [if_pos rfl]
                  have kT := k5d.at_ hT
                  go_simp; go_at_call 55; (with_reducible refine (LL.out _ kT).mono ?_); rintro e w2 ⟨vl, rfl, rowl, hb⟩; exact left_intro (T := Stp) (Ph := fun _ _ _ => True) (show rowS _ _ _ from ⟨_, rfl, rowl⟩) (Stp.of hb) trivial
                refine ⟨?_, ?_⟩
                · rintro L a1 w1 hT - - ⟨h11, h100, -⟩   -- 19: Op.move t11
                  have e11 : a1.tmps.getD 11 undef = _ := h11
                  have f11 := getD_form e11
                  have e100 : a1.tmps.getD 100 undef = _ := h100
                  have f100 := getD_form e100
                  clear h11 h100
                  refine ⟨false, 100, by rfl, e100, ?_⟩; rw [if_pos rfl]
                  go_simp; exact left_intro rfl (Stp.refl _) trivial
                refine ⟨?_, ?_⟩
                · rintro L a1 w1 hT - - ⟨h102, h103, h100, -⟩   -- 20: Op.call { value (Operand.func 54), args := #[t102, t103], argTypes := #[35, 35] }
                  obtain ⟨b102, e102, B102⟩ : (rowS NL) (a1.tmps.getD 102 undef) w1 := h102
                  have f102 := getD_form e102
                  have e103 : a1.tmps.getD 103 undef = _ := h103
                  have f103 := getD_form e103
                  have e100 : a1.tmps.getD 100 undef = _ := h100
                  have f100 := getD_form e100
                  clear h103 h100
                  refine ⟨false, 100, by rfl, e100, ?_⟩; rw [if_pos rfl]
                  have hq1 := B102.reads
                  have hq2 := (NRd.at_ hT).reads
                  go_simp; go_at_call 54; (with_reducible refine (SM.out _ _ _ hq1 hq2).mono ?_); rintro e w2 ⟨rfl, nq, rfl⟩; exact left_intro rfl (Stp.of (below_drewN (Below.refl _ _) nq)) trivial
                refine ⟨?_, ?_⟩
                · rintro L a1 w1 hT - - ⟨h104, h100, -⟩   -- 21: Op.unOp UnOp.not 4 t104
                  have e104 : a1.tmps.getD 104 undef = _ := h104
                  have f104 := getD_form e104
                  have e100 : a1.tmps.getD 100 undef = _ := h100
                  have f100 := getD_form e100
                  clear h104 h100
                  refine ⟨false, 100, by rfl, e100, ?_⟩; rw [if_pos rfl]
                  go_simp; exact left_intro rfl (Stp.refl _) trivial
                refine ⟨?_, ?_⟩
                · rintro L a1 w1 hT - - ⟨h100, h105, -⟩   -- 22: Op.pick t100 (const (Value.bool true)) t105
                  have e100 : a1.tmps.getD 100 undef = _ := h100
                  have f100 := getD_form e100
                  have e105 : a1.tmps.getD 105 undef = _ := h105
                  have f105 := getD_form e105
                  clear h100 h105
                  go_simp; exact left_intro rfl (Stp.refl _) trivial
                refine ⟨?_, ?_⟩
                · rintro L a1 w1 hT - - ⟨h106, -⟩   -- 23: Op.move t106
                  have e106 : a1.tmps.getD 106 undef = _ := h106
                  have f106 := getD_form e106
                  clear h106
                  go_simp; exact left_intro rfl (Stp.refl _) trivial
                refine ⟨?_, ?_⟩
                · rintro L a1 w1 hT - - ⟨h15, h107, -⟩   -- 24: Op.move t15
                  have e15 : a1.tmps.getD 15 undef = _ := h15
                  have f15 := getD_form e15
                  have e107 : a1.tmps.getD 107 undef = _ := h107
                  have f107 := getD_form e107
                  clear h15 h107
                  refine ⟨false, 107, by rfl, e107, ?_⟩; rw [if_pos rfl]
                  go_simp; exact left_intro rfl (Stp.refl _) trivial
                refine ⟨?_, ?_⟩
                · rintro L a1 w1 hT - - ⟨h18, h107, -⟩   -- 25: Op.move t18
                  have e18 : a1.tmps.getD 18 undef = _ := h18
                  have f18 := getD_form e18
                  have e107 : a1.tmps.getD 107 undef = _ := h107
                  have f107 := getD_form e107
                  clear h18 h107
                  refine ⟨false, 107, by rfl, e107, ?_⟩; rw [if_pos rfl]
                  go_simp; exact left_intro rfl (Stp.refl _) trivial
                refine ⟨?_, ?_⟩
                · rintro L a1 w1 hT - - ⟨h108, h109, h107, -⟩   -- 26: Op.binOp BinOp.neq 23 t108 t109 23
                  have e108 : a1.tmps.getD 108 undef = _ := h108
                  have f108 := getD_form e108
                  have e109 : a1.tmps.getD 109 undef = _ := h109
                  have f109 := getD_form e109
                  have e107 : a1.tmps.getD 107 undef = _ := h107
                  have f107 := getD_form e107
                  clear h108 h109 h107
                  refine ⟨false, 107, by rfl, e107, ?_⟩; rw [if_pos rfl]
                  go_simp; exact left_intro rfl (Stp.refl _) trivial
                refine ⟨?_, ?_⟩
                · rintro L a1 w1 hT - - ⟨h107, h110, -⟩   -- 27: Op.pick t107 (const (Value.bool true)) t110
                  have e107 : a1.tmps.getD 107 undef = _ := h107
                  have f107 := getD_form e107
                  have e110 : a1.tmps.getD 110 undef = _ := h110
                  have f110 := getD_form e110
                  clear h107 h110
                  go_simp; exact left_intro rfl (Stp.refl _) trivial
                refine ⟨?_, ?_⟩
                · rintro L a1 w1 hT - - ⟨h111, -⟩   -- 28: Op.move t111
                  have e111 : a1.tmps.getD 111 undef = _ := h111
                  have f111 := getD_form e111
                  clear h111
                  go_simp; exact left_intro rfl (Stp.refl _) trivial
                refine ⟨?_, ?_⟩
                · rintro L a1 w1 hT - - ⟨h14, h112, -⟩   -- 29: Op.move t14
                  have e14 : a1.tmps.getD 14 undef = _ := h14
                  have f14 := getD_form e14
                  have e112 : a1.tmps.getD 112 undef = _ := h112
                  have f112 := getD_form e112
                  clear h14 h112
                  refine ⟨false, 112, by rfl, e112, ?_⟩; rw [if_pos rfl]
                  go_simp; exact left_intro rfl (Stp.refl _) trivial
                refine ⟨?_, ?_⟩
                · rintro L a1 w1 hT - - ⟨h16, h112, -⟩   -- 30: Op.fieldAddr 81 t16 1
                  have e16 : a1.tmps.getD 16 undef = _ := h16
                  have f16 := getD_form e16
                  have e112 : a1.tmps.getD 112 undef = _ := h112
                  have f112 := getD_form e112
                  clear h16 h112
                  refine ⟨false, 112, by rfl, e112, ?_⟩; rw [if_pos rfl]
                  go_simp; exact left_intro rfl (Stp.refl _) trivial
                refine ⟨?_, ?_⟩
                · rintro L a1 w1 hT - - ⟨h114, h112, -⟩   -- 31: Op.load 9 t114
                  have e114 : a1.tmps.getD 114 undef = _ := h114
                  have f114 := getD_form e114
                  have e112 : a1.tmps.getD 112 undef = _ := h112
                  have f112 := getD_form e112
                  clear h114 h112
                  refine ⟨false, 112, by rfl, e112, ?_⟩; rw [if_pos rfl]
                  have c71 := (F5d.at_ hT).cellv (i := 1) rfl
                  go_simp; exact left_intro rfl (Stp.refl _) trivial
                refine ⟨?_, ?_⟩
                · rintro L a1 w1 hT - - ⟨h113, h115, h112, -⟩   -- 32: Op.binOp BinOp.neq 9 t113 t115 9
                  have e113 : a1.tmps.getD 113 undef = _ := h113
                  have f113 := getD_form e113
                  have e115 : a1.tmps.getD 115 undef = _ := h115
                  have f115 := getD_form e115
                  have e112 : a1.tmps.getD 112 undef = _ := h112
                  have f112 := getD_form e112
                  clear h113 h115 h112
                  refine ⟨false, 112, by rfl, e112, ?_⟩; rw [if_pos rfl]
                  go_simp; exact left_intro rfl (Stp.refl _) trivial
                refine ⟨?_, ?_⟩
                · rintro L a1 w1 hT - - ⟨h112, h116, -⟩   -- 33: Op.pick t112 (const (Value.bool true)) t116
                  have e112 : a1.tmps.getD 112 undef = _ := h112
                  have f112 := getD_form e112
                  have e116 : a1.tmps.getD 116 undef = _ := h116
                  have f116 := getD_form e116
                  clear h112 h116
                  go_simp; exact left_intro rfl (Stp.refl _) trivial
                trivial
              case hmono => repeat (first | exact trivial | refine ⟨fun _ _ _ _ h => h, ?_⟩ | refine ⟨mono_blkRow _ _ _ _, ?_⟩ | refine ⟨mono_rowS _, ?_⟩)
              case hend =>
                intro w2 hT
                rintro _ rfl _ rfl _ rfl _ rfl _ rfl _ rfl _ rfl _ rfl _ rfl _ rfl _ rfl _ rfl _ rfl _ rfl _ rfl _ rfl _ rfl _ rfl v102 hb102 _ rfl _ rfl _ rfl _ rfl _ rfl _ rfl _ rfl _ rfl _ rfl _ rfl _ rfl _ rfl _ rfl _ rfl _ rfl
                simp only [relEnd, Act.put, List.setIfInBounds_toArray, List.set_cons_succ, List.set_cons_zero]
                have X6 := X5.at_ hT
                have k6 := k5.at_ hT
                have row6 := FRow.at_ row5 hT
                have B6 := B5.trans (Below.mono hT B5.size)
                clear hb102 hT
                go_wp2
                go_roundw
                case rel => exact ⟨k + 1, room1, fuse1, false, l1, A1, c1, by omega, by omega, by rfl, k6, X6, row6, hul1, B6⟩
                case measure => simp [intOf]; omega
    · have hsplit : (decide ((k : Int) < (al.length : Int)) = false ∧ decide (k < al.length) = false) ∨ (decide ((k : Int) < (al.length : Int)) = true ∧ decide (k < al.length) = true ∧ decide ((k : Int) < 60) = false ∧ decide (k < 60) = false) := by
        by_cases h9 : k < al.length
        · exact .inr ⟨decide_eq_true (by omega), decide_eq_true (by omega), decide_eq_false (by omega), decide_eq_false (by omega)⟩
        · exact .inl ⟨decide_eq_false (by omega), decide_eq_false (by omega)⟩
      rcases hsplit with ⟨h1, h2⟩ | ⟨h1, h2, h3, h4⟩
      · go_wp2
        go_ret
        exact ⟨rfl, hB⟩
      · go_wp2
        go_ret
        exact ⟨rfl, hB⟩
end Go.Proofs.Ytknkbioalohofaa
