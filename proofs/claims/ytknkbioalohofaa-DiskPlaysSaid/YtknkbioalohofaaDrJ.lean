/- A call of the disk law: the program's disk and the document's do the same. -/
import Derived.Test.YtknkbioalohofaaDrG
import Derived.Test.YtknkbioalohofaaDrH
import Derived.Test.YtknkbioalohofaaDrI
import Derived.Test.YtknkbioalohofaaPureDisk3
import Derived.Test.YtknkbioalohofaaOpenAct
namespace Go.Proofs.Ytknkbioalohofaa
open Go.RowKit Go.Maps Go.ChangeMaps Go.MapKept Go.WideMaps Go.ChangeShapes Go.WideShapes Go.ChangeAt

theorem FRow.dstp {B : Nat} {w w' : World} {v : Value} {l : List D.Fl} (h : FRow w v l) (d : DStp B w w') : FRow w' v l :=
  RowN.kept h fun g hg => by
    obtain ⟨cur, hb⟩ := RowN.blk h hg
    exact d.rest g cur _ (0, 0) hb (by decide) (by decide)
theorem tame_of {B : Nat} {w : World} {p : Nat} {M : D.Dk} (h : DkAt B w p M) (hu : D.used M.files ≤ 1000000000) : Tame M := by
  obtain ⟨mb, Es, h⟩ := h
  have hr : D.Rise D.Fl.name M.files := by
    obtain ⟨es, he, hr, _⟩ := World.ownsMap.canon h.map lawK
    have e : Es.map D.ent = es := by injection he
    subst e
    rw [List.pairwise_map] at hr
    rw [← h.eq]
    unfold D.Rise
    rw [List.pairwise_map]
    exact hr
  refine ⟨hr, Nat.le_trans h.few (by decide), hu, h.room, ⟨h.fuse.1, by have := h.fuse.2; omega⟩, fun f hf => ?_⟩
  rw [← h.eq] at hf
  obtain ⟨x, hx, rfl⟩ := List.mem_map.1 hf
  exact (h.held x hx).2.2.1
namespace D
/-- A call of the law's, on the pure disk. -/
def byteN (n : Int) : UInt8 := UInt8.ofNat (n / 256 % 256).toNat
theorem byteN_eq (n : Int) : ((byteN n).toNat : Int) = n / 256 % 256 := by
  unfold byteN
  rw [UInt8.toNat_ofNat']
  omega
def step (M : Dk) (a : A5) : Dk × Nat :=
  if a.kind = 1 then append M a.name (a.b.take 300) else if a.kind = 2 then sync M a.name else if a.kind = 3 then rename M a.name a.to else if a.kind = 4 then remove M a.name
  else if a.kind = 6 then (arm M a.n, 0) else if a.kind = 7 then (crash M (a.keeps.take 50), 0) else if a.kind = 8 then spoil M a.name a.n (byteN a.n) else (M, 0)
end D
def rowI (l : List Int) : Value → World → Prop := fun v w => ∃ u, v = u ∧ Row1 w 3 u (l.map intI)
theorem mono_rowI (l : List Int) : ∀ v w w', Stp w w' → rowI l v w → rowI l v w' := fun _ _ _ hs ⟨u, h1, h2⟩ => ⟨u, h1, h2.at_ hs⟩
theorem DStp.behind {B : Nat} {w w4 w5 : World} (h : DStp B w w4) (hb : Below w.heap.size w4 w5) (hB : B ≤ w.heap.size) : DStp B w w5 :=
  ⟨h.below.trans (hb.mono hB), fun i cs t fz hi h1 h2 => by
    have hlt : i < w.heap.size := by
      rcases Nat.lt_or_ge i w.heap.size with h | h
      · exact h
      · rw [Array.getElem?_eq_none h] at hi; cases hi
    exact (hb.block i hlt).trans (h.rest i cs t fz hi h1 h2)⟩
theorem store8k {g0 g1 : Nat} {W : World} {a b c d a' b' c' d' : Value} (D : Blk W g0 #[a, b, c, d] 76) (R : Blk W g1 #[a', b', c', d'] 76) (hne : g1 ≠ g0) (x y z u p q r s : Value) :
    ∃ W', W' = ((((((((W.setCell ⟨g0, 0, none⟩ x).setCell ⟨g0, 1, none⟩ y).setCell ⟨g0, 2, none⟩ z).setCell ⟨g0, 3, none⟩ u).setCell ⟨g1, 0, none⟩ p).setCell ⟨g1, 1, none⟩ q).setCell ⟨g1, 2, none⟩ r).setCell ⟨g1, 3, none⟩ s) ∧ Blk W' g1 #[p, q, r, s] 76 ∧ (∀ B X, B ≤ g0 → B ≤ g1 → Below B X W → Below B X W') ∧ (∀ o l, FRow W o l → FRow W' o l) ∧ (∀ B k M, DkAt B W k M → DkAt B W' k M) := by
  obtain ⟨_, o0⟩ := blk4 D x y z u
  have R1 := R.only o0 hne
  obtain ⟨b2, o2⟩ := blk4 R1 p q r s
  exact ⟨_, rfl, b2, fun B X h0 h1 h => o2.below (o0.below h h0) h1, fun o l h => RowN.only (RowN.only h D (by decide) o0) R1 (by decide) o2, fun B k M h => (h.only D (by decide) o0).only R1 (by decide) o2⟩
set_option maxRecDepth 100000 in
set_option maxHeartbeats 8000000 in
theorem does_any {B p : Nat} {w0 w : World} {M : D.Dk} (a : D.A5) (v : Value) (hD : DkAt B w p M) (hV : RDk w v M) (hu : D.used M.files ≤ 100000) (ha : ActOk w0 a) (hb0 : w0.heap.size ≤ B) (hbw : Below B w0 w) :
    Calls Try.prog 51 #[.pointer (some ⟨p, 0, none⟩), v, .agg a.cells.toArray] w fun e w' => ∃ v', e = .returned (.tuple #[v', .bool true]) ∧ DkAt B w' p (D.step M a).1 ∧ RDk w' v' (D.step M a).1 ∧ DStp B w w' := by
  have hT := tame_of hD (by omega)
  have hBl := Nat.le_of_lt hD.lt
  obtain ⟨hkk, hnm, hto, hbb, hnn, hki, hwf⟩ := ha
  obtain ⟨kind, name, to, b0, n, ks, kv⟩ := a
  dsimp only at hkk hnm hto hbb hnn hki hwf
  have hki0 := hki
  obtain ⟨Ak, ck, hkv, -, -⟩ := hki
  rw [List.length_map] at hkv
  subst hkv
  obtain ⟨A, c, rfl, hrow⟩ := hV
  have CU := Lib.hid (fun W => lcut_to b0 300 (z := 300) rfl W)
  have hbl : (b0.take 300).length ≤ 300 := by rw [List.length_take]; omega
  have hSt : D.step M ⟨kind, name, to, b0, n, ks, .slice Ak ks.length ck⟩ = if kind = 1 then D.append M name (b0.take 300) else if kind = 2 then D.sync M name else if kind = 3 then D.rename M name to else if kind = 4 then D.remove M name
    else if kind = 6 then (D.arm M n, 0) else if kind = 7 then (D.crash M (ks.take 50), 0) else if kind = 8 then D.spoil M name n (D.byteN n) else (M, 0) := rfl
  rw [hSt]
  clear hSt
  generalize b0.take 300 = b at *
  obtain ⟨room, fuse, dead, l⟩ := M
  dsimp only at hu hrow
  have hV : RDk w (dskV ⟨room, fuse, dead, l⟩ (.slice A l.length c)) ⟨room, fuse, dead, l⟩ := ⟨A, c, rfl, hrow⟩
  change Calls Try.prog _ #[_, .agg #[.int .i64 room, .int .i64 fuse, .bool dead, .slice A l.length c], .agg #[.int .i64 kind, .string ⟨name.toArray⟩, .string ⟨to.toArray⟩, .string ⟨b0.toArray⟩, .int .i64 n, .slice Ak ks.length ck]] w _
  obtain ⟨W0, hW0, D0, X0, R0, hB0, hsz0⟩ := three_new w #[.int .i64 room, .int .i64 fuse, .bool dead, .slice A l.length c] #[.int .i64 kind, .string ⟨name.toArray⟩, .string ⟨to.toArray⟩, .string ⟨b0.toArray⟩, .int .i64 n, .slice Ak ks.length ck] #[.int .i64 0, .int .i64 0, .bool false, .slice none 0 0] 76 71 76
  have k0 := hD.at_ hB0
  have s0 := DStp.of hB0 hBl
  have n20 : w.heap.size + 2 ≠ w.heap.size := by omega
  rw [hW0] at D0 X0 R0 k0 s0
  clear hW0 hB0 hsz0
  by_cases h1 : kind = 1
  · subst h1
    rw [if_pos rfl]
    have PA0 := fun W (h : DkAt B W p ⟨room, fuse, dead, l⟩) => append_to h name b hnm (by omega) (by show D.used l + _ ≤ _; omega) rfl rfl
    have RA0 := fun W V (h : RDk W V ⟨room, fuse, dead, l⟩) => rappend_any ⟨room, fuse, dead, l⟩ name b (by omega) V W h hT
    generalize D.append ⟨room, fuse, dead, l⟩ name b = R at *
    obtain ⟨⟨room1, fuse1, dead1, l1⟩, e1⟩ := R
    dsimp only at PA0 RA0 ⊢
    have RA := Lib.hid (fun W (h : FRow W (.slice A l.length c) l) => (RA0 W (dskV ⟨room, fuse, dead, l⟩ (.slice A l.length c)) ⟨A, c, rfl, h⟩).mono (R' := fun e w' => ∃ A' c', e = .returned (.tuple #[.agg #[.int .i64 room1, .int .i64 fuse1, .bool dead1, .slice A' l1.length c'], .int .i64 (e1 : Int)]) ∧ FRow w' (.slice A' l1.length c') l1 ∧ Below W.heap.size W w') (by rintro e w' ⟨v', rfl, ⟨A', c', rfl, h2⟩, h3⟩; exact ⟨A', c', rfl, h2, h3⟩))
    clear RA0
    unfold dskV at RA
    dsimp only at RA
    have PA := Lib.hid PA0
    clear PA0 hT
    go_enter Try.func51, Try.ntmps51
    go_wp2_with (first | (go_at_call 19; (with_reducible refine (CU.out _).mono ?_); rintro e w1 ⟨rfl, rfl⟩) | (go_at_call 38; go_loud ((with_reducible refine (PA.out _ k0).mono ?_); rintro e w3 ⟨rfl, k3, s3⟩; have D3 := D0.dstp s3 (by decide) (by decide); have X3 := X0.dstp s3 (by decide) (by decide); have R3 := R0.dstp s3 (by decide) (by decide); have s03 := s0.trans s3; have row3 := hrow.dstp s03; obtain ⟨x00, x01, x02, x03, y00, y01, y02, y03⟩ := free4 D3; have x10 := X3.cellv (i := 0) rfl; have x11 := X3.cellv (i := 1) rfl; have x12 := X3.cellv (i := 2) rfl; have x13 := X3.cellv (i := 3) rfl; have x14 := X3.cellv (i := 4) rfl; have x15 := X3.cellv (i := 5) rfl)) | (go_at_call 81; go_loud ((with_reducible refine (RA.out _ row3).mono ?_); rintro e w4 ⟨A4, c4, rfl, row4, b4⟩; have D4 := D3.at_ b4; have R4 := R3.at_ b4; have k4 := k3.at_ b4; have s4 := s03.trans (DStp.of b4 (Nat.le_of_lt k3.lt)); obtain ⟨u00, u01, u02, u03, v00, v01, v02, v03⟩ := free4 D4; obtain ⟨u10, u11, u12, u13, v10, v11, v12, v13⟩ := free4 R4)))
    obtain ⟨W8, hW8, b8, hB8, hR8, hK8⟩ := store8k D4 R4 n20 (.int .i64 room1) (.int .i64 fuse1) (.bool dead1) (.slice A4 l1.length c4) (.int .i64 room1) (.int .i64 fuse1) (.bool dead1) (.slice A4 l1.length c4)
    rw [← hW8]
    exact bodyPost_ret (v := .tuple #[.agg #[.int .i64 room1, .int .i64 fuse1, .bool dead1, .slice A4 l1.length c4], .bool true]) (results_blk2 (by rfl) _ b8 _ _ (by rfl) (by rfl) Try.underlying76 (by rfl) (size_dskC _ _ _ _)) rfl ⟨_, rfl, hK8 _ _ _ k4, ⟨A4, c4, rfl, hR8 _ _ row4⟩, s4.behind (hB8 _ _ (Nat.le_refl _) (by omega) (Below.refl _ _)) hBl⟩
  rw [if_neg h1]
  have e1 : (kind == 1) = false := beq_eq_false_iff_ne.2 h1
  by_cases h2 : kind = 2
  · subst h2
    rw [if_pos rfl]
    have PA0 := fun W (h : DkAt B W p ⟨room, fuse, dead, l⟩) => sync_to h name hnm rfl rfl
    have RA0 := fun W V (h : RDk W V ⟨room, fuse, dead, l⟩) => rsync_any ⟨room, fuse, dead, l⟩ name V W h hT
    generalize D.sync ⟨room, fuse, dead, l⟩ name = R at *
    obtain ⟨⟨room1, fuse1, dead1, l1⟩, e1⟩ := R
    dsimp only at PA0 RA0 ⊢
    have RA := Lib.hid (fun W (h : FRow W (.slice A l.length c) l) => (RA0 W (dskV ⟨room, fuse, dead, l⟩ (.slice A l.length c)) ⟨A, c, rfl, h⟩).mono (R' := fun e w' => ∃ A' c', e = .returned (.tuple #[.agg #[.int .i64 room1, .int .i64 fuse1, .bool dead1, .slice A' l1.length c'], .int .i64 (e1 : Int)]) ∧ FRow w' (.slice A' l1.length c') l1 ∧ Below W.heap.size W w') (by rintro e w' ⟨v', rfl, ⟨A', c', rfl, h2⟩, h3⟩; exact ⟨A', c', rfl, h2, h3⟩))
    clear RA0
    unfold dskV at RA
    dsimp only at RA
    have PA := Lib.hid PA0
    clear PA0 hT
    go_enter Try.func51, Try.ntmps51
    go_wp2_with (first | (go_at_call 19; (with_reducible refine (CU.out _).mono ?_); rintro e w1 ⟨rfl, rfl⟩) | (go_at_call 39; go_loud ((with_reducible refine (PA.out _ k0).mono ?_); rintro e w3 ⟨rfl, k3, s3⟩; have D3 := D0.dstp s3 (by decide) (by decide); have X3 := X0.dstp s3 (by decide) (by decide); have R3 := R0.dstp s3 (by decide) (by decide); have s03 := s0.trans s3; have row3 := hrow.dstp s03; obtain ⟨x00, x01, x02, x03, y00, y01, y02, y03⟩ := free4 D3; have x10 := X3.cellv (i := 0) rfl; have x11 := X3.cellv (i := 1) rfl; have x12 := X3.cellv (i := 2) rfl; have x13 := X3.cellv (i := 3) rfl; have x14 := X3.cellv (i := 4) rfl; have x15 := X3.cellv (i := 5) rfl)) | (go_at_call 82; go_loud ((with_reducible refine (RA.out _ row3).mono ?_); rintro e w4 ⟨A4, c4, rfl, row4, b4⟩; have D4 := D3.at_ b4; have R4 := R3.at_ b4; have k4 := k3.at_ b4; have s4 := s03.trans (DStp.of b4 (Nat.le_of_lt k3.lt)); obtain ⟨u00, u01, u02, u03, v00, v01, v02, v03⟩ := free4 D4; obtain ⟨u10, u11, u12, u13, v10, v11, v12, v13⟩ := free4 R4)))
    obtain ⟨W8, hW8, b8, hB8, hR8, hK8⟩ := store8k D4 R4 n20 (.int .i64 room1) (.int .i64 fuse1) (.bool dead1) (.slice A4 l1.length c4) (.int .i64 room1) (.int .i64 fuse1) (.bool dead1) (.slice A4 l1.length c4)
    rw [← hW8]
    exact bodyPost_ret (v := .tuple #[.agg #[.int .i64 room1, .int .i64 fuse1, .bool dead1, .slice A4 l1.length c4], .bool true]) (results_blk2 (by rfl) _ b8 _ _ (by rfl) (by rfl) Try.underlying76 (by rfl) (size_dskC _ _ _ _)) rfl ⟨_, rfl, hK8 _ _ _ k4, ⟨A4, c4, rfl, hR8 _ _ row4⟩, s4.behind (hB8 _ _ (Nat.le_refl _) (by omega) (Below.refl _ _)) hBl⟩
  rw [if_neg h2]
  have e2 : (kind == 2) = false := beq_eq_false_iff_ne.2 h2
  by_cases h3 : kind = 3
  · subst h3
    rw [if_pos rfl]
    have PA0 := fun W (h : DkAt B W p ⟨room, fuse, dead, l⟩) => rename_to h name to hnm hto rfl rfl
    have RA0 := fun W V (h : RDk W V ⟨room, fuse, dead, l⟩) => rrename_any ⟨room, fuse, dead, l⟩ name to V W h hT
    generalize D.rename ⟨room, fuse, dead, l⟩ name to = R at *
    obtain ⟨⟨room1, fuse1, dead1, l1⟩, e1⟩ := R
    dsimp only at PA0 RA0 ⊢
    have RA := Lib.hid (fun W (h : FRow W (.slice A l.length c) l) => (RA0 W (dskV ⟨room, fuse, dead, l⟩ (.slice A l.length c)) ⟨A, c, rfl, h⟩).mono (R' := fun e w' => ∃ A' c', e = .returned (.tuple #[.agg #[.int .i64 room1, .int .i64 fuse1, .bool dead1, .slice A' l1.length c'], .int .i64 (e1 : Int)]) ∧ FRow w' (.slice A' l1.length c') l1 ∧ Below W.heap.size W w') (by rintro e w' ⟨v', rfl, ⟨A', c', rfl, h2⟩, h3⟩; exact ⟨A', c', rfl, h2, h3⟩))
    clear RA0
    unfold dskV at RA
    dsimp only at RA
    have PA := Lib.hid PA0
    clear PA0 hT
    go_enter Try.func51, Try.ntmps51
    go_wp2_with (first | (go_at_call 19; (with_reducible refine (CU.out _).mono ?_); rintro e w1 ⟨rfl, rfl⟩) | (go_at_call 48; go_loud ((with_reducible refine (PA.out _ k0).mono ?_); rintro e w3 ⟨rfl, k3, s3⟩; have D3 := D0.dstp s3 (by decide) (by decide); have X3 := X0.dstp s3 (by decide) (by decide); have R3 := R0.dstp s3 (by decide) (by decide); have s03 := s0.trans s3; have row3 := hrow.dstp s03; obtain ⟨x00, x01, x02, x03, y00, y01, y02, y03⟩ := free4 D3; have x10 := X3.cellv (i := 0) rfl; have x11 := X3.cellv (i := 1) rfl; have x12 := X3.cellv (i := 2) rfl; have x13 := X3.cellv (i := 3) rfl; have x14 := X3.cellv (i := 4) rfl; have x15 := X3.cellv (i := 5) rfl)) | (go_at_call 83; go_loud ((with_reducible refine (RA.out _ row3).mono ?_); rintro e w4 ⟨A4, c4, rfl, row4, b4⟩; have D4 := D3.at_ b4; have R4 := R3.at_ b4; have k4 := k3.at_ b4; have s4 := s03.trans (DStp.of b4 (Nat.le_of_lt k3.lt)); obtain ⟨u00, u01, u02, u03, v00, v01, v02, v03⟩ := free4 D4; obtain ⟨u10, u11, u12, u13, v10, v11, v12, v13⟩ := free4 R4)))
    obtain ⟨W8, hW8, b8, hB8, hR8, hK8⟩ := store8k D4 R4 n20 (.int .i64 room1) (.int .i64 fuse1) (.bool dead1) (.slice A4 l1.length c4) (.int .i64 room1) (.int .i64 fuse1) (.bool dead1) (.slice A4 l1.length c4)
    rw [← hW8]
    exact bodyPost_ret (v := .tuple #[.agg #[.int .i64 room1, .int .i64 fuse1, .bool dead1, .slice A4 l1.length c4], .bool true]) (results_blk2 (by rfl) _ b8 _ _ (by rfl) (by rfl) Try.underlying76 (by rfl) (size_dskC _ _ _ _)) rfl ⟨_, rfl, hK8 _ _ _ k4, ⟨A4, c4, rfl, hR8 _ _ row4⟩, s4.behind (hB8 _ _ (Nat.le_refl _) (by omega) (Below.refl _ _)) hBl⟩
  rw [if_neg h3]
  have e3 : (kind == 3) = false := beq_eq_false_iff_ne.2 h3
  by_cases h4 : kind = 4
  · subst h4
    rw [if_pos rfl]
    have PA0 := fun W (h : DkAt B W p ⟨room, fuse, dead, l⟩) => remove_to h name hnm rfl rfl
    have RA0 := fun W V (h : RDk W V ⟨room, fuse, dead, l⟩) => rremove_any ⟨room, fuse, dead, l⟩ name V W h hT
    generalize D.remove ⟨room, fuse, dead, l⟩ name = R at *
    obtain ⟨⟨room1, fuse1, dead1, l1⟩, e1⟩ := R
    dsimp only at PA0 RA0 ⊢
    have RA := Lib.hid (fun W (h : FRow W (.slice A l.length c) l) => (RA0 W (dskV ⟨room, fuse, dead, l⟩ (.slice A l.length c)) ⟨A, c, rfl, h⟩).mono (R' := fun e w' => ∃ A' c', e = .returned (.tuple #[.agg #[.int .i64 room1, .int .i64 fuse1, .bool dead1, .slice A' l1.length c'], .int .i64 (e1 : Int)]) ∧ FRow w' (.slice A' l1.length c') l1 ∧ Below W.heap.size W w') (by rintro e w' ⟨v', rfl, ⟨A', c', rfl, h2⟩, h3⟩; exact ⟨A', c', rfl, h2, h3⟩))
    clear RA0
    unfold dskV at RA
    dsimp only at RA
    have PA := Lib.hid PA0
    clear PA0 hT
    go_enter Try.func51, Try.ntmps51
    go_wp2_with (first | (go_at_call 19; (with_reducible refine (CU.out _).mono ?_); rintro e w1 ⟨rfl, rfl⟩) | (go_at_call 47; go_loud ((with_reducible refine (PA.out _ k0).mono ?_); rintro e w3 ⟨rfl, k3, s3⟩; have D3 := D0.dstp s3 (by decide) (by decide); have X3 := X0.dstp s3 (by decide) (by decide); have R3 := R0.dstp s3 (by decide) (by decide); have s03 := s0.trans s3; have row3 := hrow.dstp s03; obtain ⟨x00, x01, x02, x03, y00, y01, y02, y03⟩ := free4 D3; have x10 := X3.cellv (i := 0) rfl; have x11 := X3.cellv (i := 1) rfl; have x12 := X3.cellv (i := 2) rfl; have x13 := X3.cellv (i := 3) rfl; have x14 := X3.cellv (i := 4) rfl; have x15 := X3.cellv (i := 5) rfl)) | (go_at_call 84; go_loud ((with_reducible refine (RA.out _ row3).mono ?_); rintro e w4 ⟨A4, c4, rfl, row4, b4⟩; have D4 := D3.at_ b4; have R4 := R3.at_ b4; have k4 := k3.at_ b4; have s4 := s03.trans (DStp.of b4 (Nat.le_of_lt k3.lt)); obtain ⟨u00, u01, u02, u03, v00, v01, v02, v03⟩ := free4 D4; obtain ⟨u10, u11, u12, u13, v10, v11, v12, v13⟩ := free4 R4)))
    obtain ⟨W8, hW8, b8, hB8, hR8, hK8⟩ := store8k D4 R4 n20 (.int .i64 room1) (.int .i64 fuse1) (.bool dead1) (.slice A4 l1.length c4) (.int .i64 room1) (.int .i64 fuse1) (.bool dead1) (.slice A4 l1.length c4)
    rw [← hW8]
    exact bodyPost_ret (v := .tuple #[.agg #[.int .i64 room1, .int .i64 fuse1, .bool dead1, .slice A4 l1.length c4], .bool true]) (results_blk2 (by rfl) _ b8 _ _ (by rfl) (by rfl) Try.underlying76 (by rfl) (size_dskC _ _ _ _)) rfl ⟨_, rfl, hK8 _ _ _ k4, ⟨A4, c4, rfl, hR8 _ _ row4⟩, s4.behind (hB8 _ _ (Nat.le_refl _) (by omega) (Below.refl _ _)) hBl⟩
  rw [if_neg h4]
  have e4 : (kind == 4) = false := beq_eq_false_iff_ne.2 h4
  by_cases h6 : kind = 6
  · subst h6
    rw [if_pos rfl]
    have hafl := D.arm_files (M := ⟨room, fuse, dead, l⟩) n
    have PA0 := fun W (h : DkAt B W p ⟨room, fuse, dead, l⟩) => arm_to h n hnn rfl
    have RA0 := fun W => rarm_any ⟨room, fuse, dead, l⟩ n A l.length c W
    unfold dskV at RA0
    dsimp only at RA0
    generalize D.arm ⟨room, fuse, dead, l⟩ n = R at *
    obtain ⟨room1, fuse1, dead1, l1⟩ := R
    obtain rfl : l1 = l := hafl
    dsimp only at PA0 RA0 ⊢
    have PA := Lib.hid PA0
    have RA := Lib.hid RA0
    clear PA0 RA0 hT
    go_enter Try.func51, Try.ntmps51
    go_wp2_with (first | (go_at_call 19; (with_reducible refine (CU.out _).mono ?_); rintro e w1 ⟨rfl, rfl⟩) | (go_at_call 40; go_loud ((with_reducible refine (PA.out _ k0).mono ?_); rintro e w3 ⟨rfl, k3, s3⟩; have D3 := D0.dstp s3 (by decide) (by decide); have X3 := X0.dstp s3 (by decide) (by decide); have R3 := R0.dstp s3 (by decide) (by decide); have s03 := s0.trans s3; have row3 := hrow.dstp s03; obtain ⟨x00, x01, x02, x03, y00, y01, y02, y03⟩ := free4 D3; have x10 := X3.cellv (i := 0) rfl; have x11 := X3.cellv (i := 1) rfl; have x12 := X3.cellv (i := 2) rfl; have x13 := X3.cellv (i := 3) rfl; have x14 := X3.cellv (i := 4) rfl; have x15 := X3.cellv (i := 5) rfl)) | (go_at_call 85; go_loud ((with_reducible refine (RA.out _).mono ?_); rintro e w4 ⟨rfl, b4⟩; have row4 := row3.at_ b4; have D4 := D3.at_ b4; have R4 := R3.at_ b4; have k4 := k3.at_ b4; have s4 := s03.trans (DStp.of b4 (Nat.le_of_lt k3.lt)); obtain ⟨u00, u01, u02, u03, v00, v01, v02, v03⟩ := free4 D4; obtain ⟨u10, u11, u12, u13, v10, v11, v12, v13⟩ := free4 R4)))
    obtain ⟨A4, hA4⟩ : ∃ A4, A4 = A := ⟨_, rfl⟩
    obtain ⟨c4, hc4⟩ : ∃ c4, c4 = c := ⟨_, rfl⟩
    rw [← hA4, ← hc4] at row4 ⊢
    obtain ⟨W8, hW8, b8, hB8, hR8, hK8⟩ := store8k D4 R4 n20 (.int .i64 room1) (.int .i64 fuse1) (.bool dead1) (.slice A4 l1.length c4) (.int .i64 room1) (.int .i64 fuse1) (.bool dead1) (.slice A4 l1.length c4)
    rw [← hW8]
    exact bodyPost_ret (v := .tuple #[.agg #[.int .i64 room1, .int .i64 fuse1, .bool dead1, .slice A4 l1.length c4], .bool true]) (results_blk2 (by rfl) _ b8 _ _ (by rfl) (by rfl) Try.underlying76 (by rfl) (size_dskC _ _ _ _)) rfl ⟨_, rfl, hK8 _ _ _ k4, ⟨A4, c4, rfl, hR8 _ _ row4⟩, s4.behind (hB8 _ _ (Nat.le_refl _) (by omega) (Below.refl _ _)) hBl⟩
  rw [if_neg h6]
  have e6 : (kind == 6) = false := beq_eq_false_iff_ne.2 h6
  by_cases h7 : kind = 7
  · subst h7
    rw [if_pos rfl]
    have hwf2 : ∀ a ∈ ks.take 50, -9223372036854775808 ≤ a ∧ a < 9223372036854775808 := fun a ha => hwf a (List.mem_of_mem_take ha)
    have hkl2 : (ks.take 50).length ≤ 50 := by rw [List.length_take]; omega
    have FW := Lib.hid (fun W (h : Below B w0 W) => few_to ks (.slice Ak ks.length ck) W (ints_at hki0 hb0 h) 50 (by omega) (by omega) (z := 50) rfl)
    have PA0 := fun W v (h : DkAt B W p ⟨room, fuse, dead, l⟩) hk => crash_to h (ks.take 50) v (by omega) hwf2 hk (by show D.used l ≤ _; omega) rfl
    have RA0 := fun W v (h : FRow W (.slice A l.length c) l) hk => rcrash_any ⟨room, fuse, dead, l⟩ (ks.take 50) v (.agg #[.int .i64 room, .int .i64 fuse, .bool dead, .slice A l.length c]) W ⟨A, c, rfl, h⟩ hT hk (by omega) hwf2
    generalize D.crash ⟨room, fuse, dead, l⟩ (ks.take 50) = R at *
    obtain ⟨room1, fuse1, dead1, l1⟩ := R
    generalize ks.take 50 = kt at *
    have PA := Lib.hid PA0
    have RA := Lib.hid RA0
    clear PA0 RA0 hT hwf hwf2 hkl2
    go_enter Try.func51, Try.ntmps51
    go_wp2_with (first | (go_at_call 19; (with_reducible refine (CU.out _).mono ?_); rintro e w1 ⟨rfl, rfl⟩) | (go_at_call 42; go_loud ((with_reducible refine (FW.out _ (hbw.trans s0.below)).mono ?_); rintro e w2 ⟨vf, rfl, rowf, b2⟩; have s1 := s0.trans (DStp.of b2 (Nat.le_of_lt k0.lt)); have k1 := k0.at_ b2; have D1 := D0.at_ b2; have X1 := X0.at_ b2; have R1 := R0.at_ b2)) | (go_at_call 41; go_loud ((with_reducible refine (PA.out _ _ k1 (row_ints rowf)).mono ?_); rintro e w3 ⟨rfl, k3, s3⟩; have D3 := D1.dstp s3 (by decide) (by decide); have X3 := X1.dstp s3 (by decide) (by decide); have R3 := R1.dstp s3 (by decide) (by decide); have s03 := s1.trans s3; have row3 := hrow.dstp s03)))
    have D3' : Blk w3.drew w.heap.size _ 76 := D3
    have X3' : Blk w3.drew (w.heap.size + 1) _ 71 := X3
    have row3' : FRow w3.drew (.slice A l.length c) l := row3
    have hbB : Below B w0 w3.drew := below_drewN (hbw.trans s03.below) 1
    have hB3 : B ≤ w3.drew.heap.size := Nat.le_of_lt k3.lt
    apply wp_region_rel_below_tail 5 [[(4, none)], [(5, none)], [(92, some 1)], [(93, some 2)], [(91, some 0), (94, some 3)]] [eqv _, eqv _, eqv _, rowI kt, rdR room1 fuse1 dead1 l1] (by kernel_rfl) (by kernel_rfl)
    case hobs =>
      refine ⟨?_, ?_⟩
      · rintro L a1 w1 hT - - ⟨h4, -⟩   -- 0: Op.load 76 t4
        have e4 : a1.tmps.getD 4 undef = _ := h4
        have f4 := getD_form e4
        clear h4
        obtain ⟨c00, c01, c02, c03, -, -, -, -⟩ := free4 (D3'.at_ hT)
        go_simp; exact left_intro rfl (Stp.refl _) trivial
      refine ⟨?_, ?_⟩
      · rintro L a1 w1 hT - - ⟨h5, -⟩   -- 1: Op.fieldAddr 71 t5 5
        have e5 : a1.tmps.getD 5 undef = _ := h5
        have f5 := getD_form e5
        clear h5
        go_simp; exact left_intro rfl (Stp.refl _) trivial
      refine ⟨?_, ?_⟩
      · rintro L a1 w1 hT - - ⟨h92, -⟩   -- 2: Op.load 39 t92
        have e92 : a1.tmps.getD 92 undef = _ := h92
        have f92 := getD_form e92
        clear h92
        have c25 := (X3'.at_ hT).cellv (i := 5) rfl
        go_simp; exact left_intro rfl (Stp.refl _) trivial
      refine ⟨?_, ?_⟩
      · rintro L a1 w1 hT - - ⟨h93, -⟩   -- 3: Op.call { value (Operand.func 42), args := #[t93, const (50:i64)], argTypes := #[39, 3] }
        have e93 : a1.tmps.getD 93 undef = _ := h93
        have f93 := getD_form e93
        clear h93
        have hbW := hbB.trans (Below.mono hT hB3)
        go_simp; go_at_call 42; (with_reducible refine (FW.out _ hbW).mono ?_); rintro e w4 ⟨vg, rfl, rowg, hb⟩; exact left_intro (T := Stp) (Ph := fun _ _ _ => True) (show rowI _ _ _ from ⟨_, rfl, rowg⟩) (Stp.of hb) trivial
      refine ⟨?_, ?_⟩
      · rintro L a1 w1 hT - - ⟨h91, h94, -⟩   -- 4: Op.call { value (Operand.func 86), args := #[t91, t94], argTypes := #[76, 39] }
        have e91 : a1.tmps.getD 91 undef = _ := h91
        have f91 := getD_form e91
        obtain ⟨b94, e94, B94⟩ : (rowI kt) (a1.tmps.getD 94 undef) w1 := h94
        have f94 := getD_form e94
        clear h91
        have hrT := FRow.at_ row3' hT
        have hik : IntsAt w1 b94 kt := B94.reads
        go_simp; go_at_call 86; (with_reducible refine (RA.out _ _ hrT hik).mono ?_); rintro e w4 ⟨vh, rfl, ⟨A8, c8, rfl, hr8⟩, hb⟩; exact left_intro (T := Stp) (Ph := fun _ _ _ => True) (show rdR _ _ _ _ _ _ from ⟨(A8, c8), rfl, hr8⟩) (Stp.of hb) trivial
      trivial
    case hmono => repeat (first | exact trivial | refine ⟨fun _ _ _ _ h => h, ?_⟩ | refine ⟨mono_blkRow _ _ _ _, ?_⟩ | refine ⟨mono_rowI _, ?_⟩ | refine ⟨mono_rdR _ _ _ _, ?_⟩)
    case hend =>
      intro w2 hT
      rintro _ rfl _ rfl _ rfl v94 hb94 v95 hb95
      change wpList _ _ _ _ _ _
      simp only [Act.put, List.setIfInBounds_toArray, List.set_cons_succ, List.set_cons_zero, List.drop_succ_cons, List.drop_zero]
      obtain ⟨⟨A4, c4⟩, rfl, row4⟩ := hb95
      dsimp only at row4
      have D4 := D3.at_ hT
      have R4 := R3.at_ hT
      have k4 := k3.at_ hT
      have s4 := s03.trans (DStp.of hT (Nat.le_of_lt k3.lt))
      obtain ⟨u00, u01, u02, u03, v00, v01, v02, v03⟩ := free4 D4
      obtain ⟨u10, u11, u12, u13, v10, v11, v12, v13⟩ := free4 R4
      clear hb94 hT
      go_wp2
      obtain ⟨W8, hW8, b8, hB8, hR8, hK8⟩ := store8k D4 R4 n20 (.int .i64 room1) (.int .i64 fuse1) (.bool dead1) (.slice A4 l1.length c4) (.int .i64 room1) (.int .i64 fuse1) (.bool dead1) (.slice A4 l1.length c4)
      rw [← hW8]
      exact bodyPost_ret (v := .tuple #[.agg #[.int .i64 room1, .int .i64 fuse1, .bool dead1, .slice A4 l1.length c4], .bool true]) (results_blk2 (by rfl) _ b8 _ _ (by rfl) (by rfl) Try.underlying76 (by rfl) (size_dskC _ _ _ _)) rfl ⟨_, rfl, hK8 _ _ _ k4, ⟨A4, c4, rfl, hR8 _ _ row4⟩, s4.behind (hB8 _ _ (Nat.le_refl _) (by omega) (Below.refl _ _)) hBl⟩
  rw [if_neg h7]
  have e7 : (kind == 7) = false := beq_eq_false_iff_ne.2 h7
  by_cases h8 : kind = 8
  · subst h8
    rw [if_pos rfl]
    have PA0 := fun W (h : DkAt B W p ⟨room, fuse, dead, l⟩) => spoil_to h name n (D.byteN n) hnm hnn (by show D.used l ≤ _; omega) rfl rfl
    have RA0 := fun W V (h : RDk W V ⟨room, fuse, dead, l⟩) => rspoil_any ⟨room, fuse, dead, l⟩ name n (D.byteN n) V W h hT hnn
    simp only [D.byteN_eq] at PA0 RA0
    generalize D.spoil ⟨room, fuse, dead, l⟩ name n (D.byteN n) = R at *
    obtain ⟨⟨room1, fuse1, dead1, l1⟩, e1⟩ := R
    dsimp only at PA0 RA0 ⊢
    have RA := Lib.hid (fun W (h : FRow W (.slice A l.length c) l) => (RA0 W (dskV ⟨room, fuse, dead, l⟩ (.slice A l.length c)) ⟨A, c, rfl, h⟩).mono (R' := fun e w' => ∃ A' c', e = .returned (.tuple #[.agg #[.int .i64 room1, .int .i64 fuse1, .bool dead1, .slice A' l1.length c'], .int .i64 (e1 : Int)]) ∧ FRow w' (.slice A' l1.length c') l1 ∧ Below W.heap.size W w') (by rintro e w' ⟨v', rfl, ⟨A', c', rfl, h2⟩, h3⟩; exact ⟨A', c', rfl, h2, h3⟩))
    clear RA0
    unfold dskV at RA
    dsimp only at RA
    have PA := Lib.hid PA0
    clear PA0 hT
    go_enter Try.func51, Try.ntmps51
    go_wp2_with (first | (go_at_call 19; (with_reducible refine (CU.out _).mono ?_); rintro e w1 ⟨rfl, rfl⟩) | (go_at_call 49; go_loud ((with_reducible refine (PA.out _ k0).mono ?_); rintro e w3 ⟨rfl, k3, s3⟩; have D3 := D0.dstp s3 (by decide) (by decide); have X3 := X0.dstp s3 (by decide) (by decide); have R3 := R0.dstp s3 (by decide) (by decide); have s03 := s0.trans s3; have row3 := hrow.dstp s03; obtain ⟨x00, x01, x02, x03, y00, y01, y02, y03⟩ := free4 D3; have x10 := X3.cellv (i := 0) rfl; have x11 := X3.cellv (i := 1) rfl; have x12 := X3.cellv (i := 2) rfl; have x13 := X3.cellv (i := 3) rfl; have x14 := X3.cellv (i := 4) rfl; have x15 := X3.cellv (i := 5) rfl)) | (go_at_call 87; go_loud ((with_reducible refine (RA.out _ row3).mono ?_); rintro e w4 ⟨A4, c4, rfl, row4, b4⟩; have D4 := D3.at_ b4; have R4 := R3.at_ b4; have k4 := k3.at_ b4; have s4 := s03.trans (DStp.of b4 (Nat.le_of_lt k3.lt)); obtain ⟨u00, u01, u02, u03, v00, v01, v02, v03⟩ := free4 D4; obtain ⟨u10, u11, u12, u13, v10, v11, v12, v13⟩ := free4 R4)))
    obtain ⟨W8, hW8, b8, hB8, hR8, hK8⟩ := store8k D4 R4 n20 (.int .i64 room1) (.int .i64 fuse1) (.bool dead1) (.slice A4 l1.length c4) (.int .i64 room1) (.int .i64 fuse1) (.bool dead1) (.slice A4 l1.length c4)
    rw [← hW8]
    exact bodyPost_ret (v := .tuple #[.agg #[.int .i64 room1, .int .i64 fuse1, .bool dead1, .slice A4 l1.length c4], .bool true]) (results_blk2 (by rfl) _ b8 _ _ (by rfl) (by rfl) Try.underlying76 (by rfl) (size_dskC _ _ _ _)) rfl ⟨_, rfl, hK8 _ _ _ k4, ⟨A4, c4, rfl, hR8 _ _ row4⟩, s4.behind (hB8 _ _ (Nat.le_refl _) (by omega) (Below.refl _ _)) hBl⟩
  rw [if_neg h8]
  have e8 : (kind == 8) = false := beq_eq_false_iff_ne.2 h8
  clear hT
  obtain ⟨W9, hW9, D9, X9, R9, hB9, hsz9⟩ := three_new w #[.int .i64 room, .int .i64 fuse, .bool dead, .slice A l.length c] #[.int .i64 kind, .string ⟨name.toArray⟩, .string ⟨to.toArray⟩, .string ⟨b0.toArray⟩, .int .i64 n, .slice Ak ks.length ck] #[.int .i64 room, .int .i64 fuse, .bool dead, .slice A l.length c] 76 71 76
  have Hw9 := Lib.hid hW9
  clear hW9
  go_enter Try.func51, Try.ntmps51
  go_wp2_with (first | (go_at_call 19; (with_reducible refine (CU.out _).mono ?_); rintro e w1 ⟨rfl, rfl⟩))
  rw [← Hw9.out]
  exact bodyPost_ret (v := .tuple #[.agg #[.int .i64 room, .int .i64 fuse, .bool dead, .slice A l.length c], .bool true]) (results_blk2 (by rfl) _ R9 _ _ (by rfl) (by rfl) Try.underlying76 (by rfl) (size_dskC _ _ _ _)) rfl ⟨_, rfl, hD.at_ hB9, ⟨A, c, rfl, hrow.at_ hB9⟩, DStp.of hB9 hBl⟩
end Go.Proofs.Ytknkbioalohofaa
