/- The walk of the disk's Crash. -/
import Derived.Test.YtknkbioalohofaaDkG
import Derived.Test.YtknkbioalohofaaRel
namespace Go.Proofs.Ytknkbioalohofaa
open Go.RowKit Go.Maps Go.ChangeMaps Go.MapKept Go.WideMaps

namespace D
/-- The files behind k rounds. -/
def mixL (keeps : List Int) (k : Nat) : Nat → List Fl → List Fl
  | _, [] => []
  | i, f :: r => (if i < k then crashF keeps i f else f) :: mixL keeps k (i + 1) r
theorem mixL_get (keeps : List Int) (k : Nat) : ∀ (l : List Fl) (i j : Nat), (mixL keeps k i l)[j]? = (l[j]?).map fun f => if i + j < k then crashF keeps (i + j) f else f
  | [], _, _ => by simp [mixL]
  | f :: r, i, 0 => by simp [mixL]
  | _ :: r, i, j + 1 => by
    show (mixL keeps k (i + 1) r)[j]? = (r[j]?).map _
    rw [mixL_get keeps k r (i + 1) j, show i + 1 + j = i + (j + 1) by omega]
theorem mixL_zero (keeps : List Int) (l : List Fl) : mixL keeps 0 0 l = l := by
  apply List.ext_getElem?
  intro j
  rw [mixL_get]
  cases l[j]? <;> simp
theorem mixL_all (keeps : List Int) (l : List Fl) : mixL keeps l.length 0 l = crashL keeps 0 l := by
  apply List.ext_getElem?
  intro j
  rw [mixL_get, crashL_get]
  cases h : l[j]? with
  | none => rfl
  | some f =>
    have hj := (List.getElem?_eq_some_iff.1 h).1
    show some _ = some _
    dsimp only
    rw [if_pos (by omega)]
theorem mixL_length (keeps : List Int) (k : Nat) : ∀ (i : Nat) (l : List Fl), (mixL keeps k i l).length = l.length
  | _, [] => rfl
  | i, _ :: r => congrArg (· + 1) (mixL_length keeps k (i + 1) r)
theorem mixL_step (keeps : List Int) (k : Nat) (l : List Fl) (f : Fl) (hf : l[k]? = some f) (hn : l.Pairwise fun x y => x.name ≠ y.name) : upd Fl.name f.name (crashF keeps k) (mixL keeps k 0 l) = mixL keeps (k + 1) 0 l := by
  apply List.ext_getElem?
  intro j
  unfold upd
  rw [List.getElem?_map, mixL_get, mixL_get, Nat.zero_add]
  cases hj : l[j]? with
  | none => rfl
  | some y =>
    show some _ = some _
    congr 1
    dsimp only
    by_cases h : j = k
    · subst h
      obtain rfl : f = y := by rw [hf] at hj; exact Option.some.inj hj
      simp
    · have hne : y.name ≠ f.name := by
        obtain ⟨a1, a2⟩ := List.getElem?_eq_some_iff.1 hj
        obtain ⟨b1, b2⟩ := List.getElem?_eq_some_iff.1 hf
        rw [List.pairwise_iff_getElem] at hn
        rcases Nat.lt_or_gt_of_ne h with h1 | h1
        · have := hn j k a1 b1 h1; rw [a2, b2] at this; exact this
        · have := hn k j b1 a1 h1; rw [a2, b2] at this; exact this.symm
      by_cases h2 : j < k
      · have h3 : j < k + 1 := by omega
        simp [h2, h3, crashF_name, hne]
      · have h3 : ¬ j < k + 1 := by omega
        simp [h2, h3, hne]
theorem tmod_keep (a : Int) (n : Nat) (hn : 0 < n) : ((a.tmod (n : Int)) + (n : Int)).tmod (n : Int) = a % (n : Int) := by
  have h0 := Int.emod_nonneg a (by omega : (n : Int) ≠ 0)
  rw [Int.tmod_eq_emod (a := a)]
  split
  · rw [Int.tmod_eq_emod_of_nonneg (by simp; omega), show a % (n : Int) - ((0 : Nat) : Int) = a % (n : Int) from by simp, Int.add_emod_right, Int.emod_emod]
  · rw [Int.natAbs_natCast, Int.sub_add_cancel, Int.tmod_eq_emod_of_nonneg h0, Int.emod_emod]
theorem tmod_bounds (a : Int) (n : Nat) (hn : 0 < n) : -(n : Int) ≤ a.tmod (n : Int) ∧ a.tmod (n : Int) < n := by
  have h0 := Int.emod_nonneg a (by omega : (n : Int) ≠ 0)
  have h1 := Int.emod_lt_of_pos a (by omega : (0 : Int) < (n : Int))
  rw [Int.tmod_eq_emod (a := a)]
  split
  · simp; omega
  · rw [Int.natAbs_natCast]; omega
end D
/-- A slice that reads as these numbers. -/
def IntsAt (w : World) (v : Value) (l : List Int) : Prop := SRead w v (l.map fun a => Value.int .i64 a)
theorem Buf.take {w : World} {A : Option Addr} {L c : Nat} {xs : List UInt8} (h : Buf w (.slice A L c) xs) (n : Nat) (hn : n ≤ xs.length) : Buf w (.slice A n c) (xs.take n) := by
  have hl : (xs.take n).length = n := by rw [List.length_take]; omega
  rcases h.2 with ⟨hv, h0⟩ | ⟨g, cap, cur, hv, h1, h2, h3, h4, h5, h6⟩
  · injection hv with e1 e2 e3
    subst e1 e3
    have : n = 0 := by omega
    subst this
    exact Buf.nil w
  · injection hv with e1 e2 e3
    subst e1 e2 e3
    refine ⟨by rw [List.length_map]; omega, .inr ⟨g, c, cur, by rw [hl], h1, h2, by omega, h4, h5, ?_⟩⟩
    rw [hl, List.map_take, ← h6, List.take_take]
    congr 1
    omega
theorem shape_of {w : World} {base : Nat} {e : TypeId} {size n : Nat} {v : Value} {xs : List Value} (h : w.ownsRow base e size v n xs) : ∃ A cap, v = .slice A n cap := by
  rcases h.2 with ⟨rfl, h0⟩ | ⟨g, cap, cur, rfl, _⟩
  · exact ⟨none, 0, by rw [h0]⟩
  · exact ⟨_, _, rfl⟩
theorem grown3 {a b c d : World} {k : Nat} (h : Only k a b) (hb : Below b.heap.size b c) (o : Only k c d) : a.grownBy d (some k) :=
  ⟨o.os.trans (hb.os.trans h.os), o.tape.trans (hb.tape.trans h.tape), o.output.trans (hb.output.trans h.output), by rw [o.size]; exact Nat.le_trans (Nat.le_of_eq h.size.symm) hb.size, fun i hi hne => (o.block i (fun e => hne (by rw [e]))).trans ((hb.block i (by rw [h.size]; exact hi)).trans (h.block i (fun e => hne (by rw [e]))))⟩
theorem onlyDrew {g : Nat} {w w' : World} (h : Only g w w') : Only g w w'.drew := ⟨h.os, h.tape, h.output, h.size, h.block⟩
theorem bufDrew {w : World} {v : Value} {xs : List UInt8} (h : Buf w v xs) : Buf w.drew v xs := h
def bufR (l : List UInt8) : Value → World → Prop := fun v w => Buf w v l
theorem mono_bufR (l : List UInt8) : ∀ v w w', Stp w w' → bufR l v w → bufR l v w' := fun _ _ _ hs h => Buf.at_ h hs
set_option maxRecDepth 100000 in
set_option maxHeartbeats 4000000 in
theorem crash_any {B : Nat} {w : World} {p : Nat} {M : D.Dk} (h : DkAt B w p M) (keeps : List Int) (kv : Value) (hkl : keeps.length ≤ 9223372036854775807) (hwf : ∀ a ∈ keeps, -9223372036854775808 ≤ a ∧ a < 9223372036854775808)
    (hk : ∀ w', DStp B w w' → IntsAt w' kv keeps) (hu : D.used M.files ≤ 1099511627776) :
    Calls Try.prog 41 #[.pointer (some ⟨p, 0, none⟩), kv] w fun e w' => e = .returned (.tuple #[]) ∧ DkAt B w' p (D.crash M keeps) ∧ DStp B w w' := by
  obtain ⟨mb, Es, h⟩ := h
  obtain ⟨Ak, ck, hkv, -, -⟩ := hk w (DStp.refl _ _)
  rw [List.length_map] at hkv
  subst hkv
  have c1 := h.blk.cellv (i := 1) rfl
  have hsz : Maps.size (D.datum Es) ≤ 4096 := by rw [D.datum_size, h.len]; exact h.few
  have cK := Lib.hid (fun W => callsIn_wide.1 (Try.maps_Keys_80 (some mb) W))
  have cS := Lib.hid (callsIn_wide.1 (Try.slices_Sorted_keys_79_80 mb _ _ _ w h.map (Nat.le_trans hsz (by decide)) (by omega)))
  have hks := fun ss => keys_sorted h (ss := ss)
  have hnames : M.files.Pairwise fun x y => x.name ≠ y.name := by
    rw [← h.eq, List.pairwise_map]; exact h.names
  have hlen := h.few
  go_enter Try.func41, Try.ntmps41
  go_wp2_with (first | (go_at_call 80; (with_reducible refine (cK.out _).mono ?_); rintro e w1 ⟨rfl, rfl⟩) | (go_at_call 79; (with_reducible refine cS.out.mono ?_); rintro e w2 ⟨v, ss, rfl, hS, hrow, -, hb⟩; obtain ⟨A, cap, rfl⟩ := shape_of hrow))
  have e1 := hks ss hS
  have e2 : ss.length = M.files.length := by rw [← List.length_map (f := D.Fl.name), ← e1, List.length_mergeSort]
  have row : Row1 w2 9 (.slice A ss.length cap) ((M.files.map D.Fl.name).map encStr) := by
    unfold Row1
    rw [← e1, List.length_map, List.length_mergeSort]
    exact owns_zero hrow
  have hB2 : Below w.heap.size w w2 := ((Below.refl _ w).alloc (Nat.le_refl _) _).trans (hb.mono (by simp))
  rw [e2] at row ⊢
  have h2 := h.at_ hB2
  have d2 := DStp.of hB2 (Nat.le_of_lt h.lt)
  clear hrow hb hks hS e1 e2 cS cK hsz
  have HN := Lib.hid hlen
  clear hlen
  go_loopw [16] (fun i wr => ∃ (k : Nat) (Es' : List D.Ent), i = .int .i64 (k : Int) ∧ k ≤ M.files.length ∧ DkE B wr p mb { M with files := D.mixL keeps k 0 M.files } Es' ∧ DStp B w wr ∧ Row1 wr 9 (.slice A M.files.length cap) ((M.files.map D.Fl.name).map encStr)) (fun i _ => M.files.length - (intOf i).toNat)
  case atStart => exact ⟨0, Es, rfl, Nat.zero_le _, by rw [D.mixL_zero]; exact h2, d2, row⟩
  case round =>
    clear row h2 d2 hB2
    obtain ⟨k, Es', rfl, hkN, k1, s1, row⟩ := hrel
    by_cases hlast : k = M.files.length
    · rw [← hlast] at row ⊢
      have hfin : ({ M with files := D.mixL keeps k 0 M.files } : D.Dk).files = D.crashL keeps 0 M.files := by rw [hlast]; exact D.mixL_all keeps M.files
      have e2 := k1.blk.cellv (i := 2) rfl
      have e3 := k1.blk.cellv (i := 3) rfl
      have f2 := k1.blk.free 2
      have f3 := k1.blk.free 3
      have key := k1.setDisk ((Only.setCell wr p 2 (.int .i64 (-1))).trans (Only.setCell (wr.setCell ⟨p, 2, none⟩ (.int .i64 (-1))) p 3 (.bool false))) { room := M.room, fuse := -1, dead := false, files := D.mixL keeps k 0 M.files } ((k1.blk.set_ 2 (.int .i64 (-1))).set_ 3 (.bool false)) rfl rfl ⟨by show (-1 : Int) ≤ -1; omega, by show (-1 : Int) < _; omega⟩
      have hc : D.crash M keeps = { room := M.room, fuse := -1, dead := false, files := D.mixL keeps k 0 M.files } := by
        show ({ room := M.room, fuse := -1, dead := false, files := D.crashL keeps 0 M.files } : D.Dk) = _
        rw [← hfin]
      have Hc := Lib.hid hc
      clear hfin hc hk k1
      go_wp2
      go_end0
      rw [Hc.out]
      exact ⟨rfl, ⟨mb, Es', key.1⟩, s1.trans key.2⟩
    · have hkl2 : k < M.files.length := by omega
      obtain ⟨f, hf⟩ : ∃ f, M.files[k]? = some f := ⟨_, List.getElem?_eq_getElem hkl2⟩
      have hmix : (D.mixL keeps k 0 M.files)[k]? = some f := by rw [D.mixL_get, hf]; simp
      obtain ⟨x, hx, hxf⟩ : ∃ x, x ∈ Es' ∧ x.1 = f := by
        have := k1.eq
        rw [show ({ M with files := D.mixL keeps k 0 M.files } : D.Dk).files = D.mixL keeps k 0 M.files from rfl] at this
        rw [← this, List.getElem?_map, Option.map_eq_some_iff] at hmix
        obtain ⟨x, h1, h2⟩ := hmix
        exact ⟨x, List.mem_of_getElem? h1, h2⟩
      subst hxf
      have hxu : x.1.b.length ≤ D.used M.files := D.used_mem (List.mem_of_getElem? hf)
      have hstep := D.mixL_step keeps k M.files x.1 hf hnames
      obtain ⟨g, hA⟩ : ∃ g, A = some ⟨g, 0, none⟩ := by
        rcases row.form with ⟨h0, _⟩ | ⟨g, c, h0, _⟩
        · injection h0 with _ h0; omega
        · injection h0 with h0; exact ⟨g, h0⟩
      subst hA
      have cN : wr.cell? ⟨g, k, none⟩ = some (.string ⟨x.1.name.toArray⟩) := row.cell rfl k _ (by rw [List.getElem?_map, List.getElem?_map, hf]; rfl)
      obtain ⟨hB, ⟨v0, hb0, hbuf0⟩, hsu, hnl⟩ := k1.held x hx
      have hlk := k1.map.look_some (n := x.1.name) (by omega) (D.fnd_of_mem k1.names x hx)
      have e1 := k1.blk.cellv (i := 1) rfl
      have q0 := hb0.cellv (i := 0) rfl
      have q1 := hb0.cellv (i := 1) rfl
      obtain ⟨A0, cp0, rfl⟩ := hbuf0.shape
      obtain ⟨d, hd⟩ : ∃ d, d = x.1.b.length - x.1.sure := ⟨_, rfl⟩
      have hw1 : IntKind.i64.wrap ((x.1.b.length : Int) - (x.1.sure : Int)) = (d : Int) := by rw [IntWalk.i64_in _ (by omega)]; omega
      obtain ⟨n, hn⟩ : ∃ n, n = d + 1 := ⟨_, rfl⟩
      have hw2 : IntKind.i64.wrap ((d : Int) + 1) = (n : Int) := by rw [IntWalk.i64_in _ (by omega)]; omega
      obtain ⟨K, hK⟩ : ∃ K, K = D.kOf keeps k n := ⟨_, rfl⟩
      have hKl : K < n := by rw [hK]; exact D.kOf_lt keeps k n (by omega)
      obtain ⟨S, hS⟩ : ∃ S, S = x.1.sure + K := ⟨_, rfl⟩
      have hcr : D.crashF keeps k x.1 = ⟨x.1.name, x.1.b.take S, S⟩ := by unfold D.crashF; rw [hS, hK, hn, hd]
      have hw3 : IntKind.i64.wrap ((x.1.sure : Int) + (K : Int)) = (S : Int) := by rw [IntWalk.i64_in _ (by omega)]; omega
      have hw4 : IntKind.i64.wrap ((k : Int) + 1) = ((k + 1 : Nat) : Int) := by rw [IntWalk.i64_in _ (by have := HN.out; omega)]; omega
      have j1 : (0 : Int) ≤ (k : Int) := by omega
      have j2 : (k : Int) < (M.files.length : Int) := by omega
      have hIK := hk wr s1
      obtain ⟨A1, c1', hkv, hck, hcells⟩ := hIK
      rw [List.length_map] at hck hkv
      injection hkv with hv1 _ hv2
      subst hv1 hv2
      have hSb : S ≤ x.1.b.length := by omega
      have bT0 := hbuf0.take S hSb
      have CC := Lib.hid (fun W (hh : Buf W (.slice A0 S cp0) (x.1.b.take S)) => clone_buf hh (by rw [List.length_take]; omega))
      have f1 := hb0.free 1
      have hsb : x.1.b.length ≤ cp0 ∧ S ≤ cp0 := by
        rcases hbuf0.2 with ⟨h0, h9⟩ | ⟨g, cap, cur, h0, _, _, h3, _⟩
        · injection h0 with _ _ h0; omega
        · injection h0 with _ _ h0; omega
      by_cases hke : keeps.length = 0
      · obtain rfl : S = x.1.sure := by rw [hS, hK]; unfold D.kOf; rw [if_pos hke]; rfl
        clear hK hS hKl hw3 hw2 hw1 hn hd
        rw [hke]
        go_wp2
        go_quiet (fail)
        go_wp2
        have wb : Below wr.heap.size wr (wr.drewN nq) := below_drewN (Below.refl _ _) nq
        have k2 := k1.at_ wb
        have s2 := s1.trans (DStp.of wb (Nat.le_of_lt k1.lt))
        have row2 := row.at_ wb
        have hb2 := hb0.at_ wb
        have o1 := Only.setCell (wr.drewN nq) x.2 1 (.int .i64 (x.1.sure : Int))
        have dF := DStp.only hb2 (.inr rfl) o1 hB
        have bF0 := hb2.set_ 1 (.int .i64 (x.1.sure : Int))
        have bF := bF0.drew
        have bT := bufDrew ((bT0.at_ wb).dstp dF)
        clear bT0 hb0 hb2 hbuf0 hlk q0 q1 e1 f1 cN wb
        apply wp_region_rel_below_tail 13 [[(6, none)], [(6, none)], [(63, some 1)], [(64, some 2)], [(65, some 3)], [(6, none)], [(67, some 5)], [(68, some 6)], [(69, some 7)], [(66, some 4), (70, some 8)], [(71, some 9)], [(62, some 0)], [(73, some 11)]] [eqv _, eqv _, eqv _, eqv _, eqv _, eqv _, eqv _, eqv _, eqv _, eqv _, bufR (x.1.b.take x.1.sure), eqv _, eqv _] (by kernel_rfl) (by kernel_rfl)
        case hobs =>
          refine ⟨?_, ?_⟩
          · rintro L a1 w1 hT - - ⟨h6, -⟩   -- 0: Op.move t6
            have e6 : a1.tmps.getD 6 undef = _ := h6
            have f6 := getD_form e6
            clear h6
            go_simp; exact left_intro rfl (Stp.refl _) trivial
          refine ⟨?_, ?_⟩
          · rintro L a1 w1 hT - - ⟨h6, -⟩   -- 1: Op.move t6
            have e6 : a1.tmps.getD 6 undef = _ := h6
            have f6 := getD_form e6
            clear h6
            go_simp; exact left_intro rfl (Stp.refl _) trivial
          refine ⟨?_, ?_⟩
          · rintro L a1 w1 hT - - ⟨h63, -⟩   -- 2: Op.nilCheck t63
            have e63 : a1.tmps.getD 63 undef = _ := h63
            have f63 := getD_form e63
            clear h63
            go_simp; exact left_intro rfl (Stp.refl _) trivial
          refine ⟨?_, ?_⟩
          · rintro L a1 w1 hT - - ⟨h64, -⟩   -- 3: Op.fieldAddr 131 t64 0
            have e64 : a1.tmps.getD 64 undef = _ := h64
            have f64 := getD_form e64
            clear h64
            go_simp; exact left_intro rfl (Stp.refl _) trivial
          refine ⟨?_, ?_⟩
          · rintro L a1 w1 hT - - ⟨h65, -⟩   -- 4: Op.load 41 t65
            have e65 : a1.tmps.getD 65 undef = _ := h65
            have f65 := getD_form e65
            clear h65
            have c0 := (bF.at_ hT).cellv (i := 0) rfl
            go_simp; exact left_intro rfl (Stp.refl _) trivial
          refine ⟨?_, ?_⟩
          · rintro L a1 w1 hT - - ⟨h6, -⟩   -- 5: Op.move t6
            have e6 : a1.tmps.getD 6 undef = _ := h6
            have f6 := getD_form e6
            clear h6
            go_simp; exact left_intro rfl (Stp.refl _) trivial
          refine ⟨?_, ?_⟩
          · rintro L a1 w1 hT - - ⟨h67, -⟩   -- 6: Op.nilCheck t67
            have e67 : a1.tmps.getD 67 undef = _ := h67
            have f67 := getD_form e67
            clear h67
            go_simp; exact left_intro rfl (Stp.refl _) trivial
          refine ⟨?_, ?_⟩
          · rintro L a1 w1 hT - - ⟨h68, -⟩   -- 7: Op.fieldAddr 131 t68 1
            have e68 : a1.tmps.getD 68 undef = _ := h68
            have f68 := getD_form e68
            clear h68
            go_simp; exact left_intro rfl (Stp.refl _) trivial
          refine ⟨?_, ?_⟩
          · rintro L a1 w1 hT - - ⟨h69, -⟩   -- 8: Op.load 3 t69
            have e69 : a1.tmps.getD 69 undef = _ := h69
            have f69 := getD_form e69
            clear h69
            have c1 := (bF.at_ hT).cellv (i := 1) rfl
            go_simp; exact left_intro rfl (Stp.refl _) trivial
          refine ⟨?_, ?_⟩
          · rintro L a1 w1 hT - - ⟨h66, h70, -⟩   -- 9: Op.slice 41 t66 none (some t70) none
            have e66 : a1.tmps.getD 66 undef = _ := h66
            have f66 := getD_form e66
            have e70 : a1.tmps.getD 70 undef = _ := h70
            have f70 := getD_form e70
            clear h66 h70
            go_simp; exact left_intro rfl (Stp.refl _) trivial
          refine ⟨?_, ?_⟩
          · rintro L a1 w1 hT - - ⟨h71, -⟩   -- 10: Op.call { value (Operand.func 78), args := #[t71], argTypes := #[41] }
            have e71 : a1.tmps.getD 71 undef = _ := h71
            have f71 := getD_form e71
            clear h71
            have bT1 := bT.at_ hT
            go_simp; go_at_call 78; (with_reducible refine (CC.out _ bT1).mono ?_); rintro e w2 ⟨v9, rfl, hbuf9, -, hb⟩; exact left_intro (T := Stp) (Ph := fun _ _ _ => True) (show bufR _ _ _ from hbuf9) (Stp.of hb) trivial
          refine ⟨?_, ?_⟩
          · rintro L a1 w1 hT - - ⟨h62, -⟩   -- 11: Op.nilCheck t62
            have e62 : a1.tmps.getD 62 undef = _ := h62
            have f62 := getD_form e62
            clear h62
            go_simp; exact left_intro rfl (Stp.refl _) trivial
          refine ⟨?_, ?_⟩
          · rintro L a1 w1 hT - - ⟨h73, -⟩   -- 12: Op.fieldAddr 131 t73 0
            have e73 : a1.tmps.getD 73 undef = _ := h73
            have f73 := getD_form e73
            clear h73
            go_simp; exact left_intro rfl (Stp.refl _) trivial
          trivial
        case hmono => repeat (first | exact trivial | refine ⟨fun _ _ _ _ h => h, ?_⟩ | refine ⟨mono_blkRow _ _ _ _, ?_⟩ | refine ⟨mono_bufR _, ?_⟩)
        case hend =>
          intro w2 hT
          rintro _ rfl _ rfl _ rfl _ rfl _ rfl _ rfl _ rfl _ rfl _ rfl _ rfl v72 hb72 _ rfl _ rfl
          change wpList _ _ _ _ _ _
          simp only [Act.put, List.setIfInBounds_toArray, List.set_cons_succ, List.set_cons_zero, List.drop_succ_cons, List.drop_zero]
          obtain ⟨A9, L9, c9, rfl⟩ := hb72.shape2
          have b9 := bF0.at_ hT
          have q9 := b9.cellv (i := 0) (v := .slice A0 x.1.b.length cp0) rfl
          have f9 := b9.free 0
          have o9 := Only.setCell w2 x.2 0 (.slice A9 L9 c9)
          have key := k2.setFileG (w' := w2.setCell ⟨x.2, 0, none⟩ (.slice A9 L9 c9)) hx (grown3 o1 hT o9) (b9.set_ 0 (.slice A9 L9 c9)) (hb72.dstp (DStp.only b9 (.inr rfl) o9 hB)) (D.crashF keeps k) hcr (fun _ => rfl) (by rw [List.length_take]; omega)
          have key2 := row2.dstp key.2 (by decide) (by decide)
          have Key := Lib.hid key
          have Key2 := Lib.hid key2
          clear key key2 o9 o1 dF bF bF0 bT b9 hT hb72 k2 row2 CC
          go_wp2
          go_roundw
          case rel => exact ⟨k + 1, _, rfl, by omega, by have e9 := Key.out.1; rw [hstep] at e9; exact e9, s2.trans Key.out.2, Key2.out⟩
          case measure => simp [intOf]; omega
      · obtain ⟨gk, ok, hAk, hgk, hcl⟩ : ∃ gk ok, Ak = some ⟨gk, ok, none⟩ ∧ gk < wr.heap.size ∧ ∀ j u, (keeps.map fun a => Value.int .i64 a)[j]? = some u → wr.cell? ⟨gk, ok + j, none⟩ = some u := by
          rcases hcells with h0 | h0
          · exact absurd (by have := congrArg List.length h0; simpa using this) hke
          · exact h0
        subst hAk
        have hL0 : 0 < keeps.length := by omega
        have hm : k % keeps.length < keeps.length := Nat.mod_lt _ hL0
        obtain ⟨m, hmm⟩ : ∃ m, m = k % keeps.length := ⟨_, rfl⟩
        rw [← hmm] at hm
        obtain ⟨a, ha⟩ : ∃ a, keeps[m]? = some a := ⟨_, List.getElem?_eq_getElem hm⟩
        have ca : wr.cell? ⟨gk, ok + m, none⟩ = some (.int .i64 a) := hcl m _ (by rw [List.getElem?_map, ha]; rfl)
        have har := hwf a (List.mem_of_getElem? ha)
        have t1 : Int.tmod (k : Int) (keeps.length : Int) = (m : Int) := by rw [Int.tmod_eq_emod_of_nonneg (by omega), hmm]; rfl
        have hKa : (K : Int) = a % (n : Int) := by
          have h1 := Int.emod_nonneg a (by omega : (n : Int) ≠ 0)
          rw [hK]; unfold D.kOf; rw [if_neg hke, List.getD, ← hmm, ha]; simp only [Option.getD_some]; omega
        have t2 := D.tmod_keep a n (by omega)
        rw [← hKa] at t2
        have hb1 := D.tmod_bounds a n (by omega)
        obtain ⟨r, hr⟩ : ∃ r, r = a.tmod (n : Int) := ⟨_, rfl⟩
        rw [← hr] at t2 hb1
        have t3 : IntKind.i64.wrap (r + (n : Int)) = r + (n : Int) := IntWalk.i64_in _ (by omega)
        have t4 : (0 : Int) < (keeps.length : Int) := by omega
        have t5 : ((keeps.length : Int) == 0) = false := by rw [beq_eq_false_iff_ne]; omega
        have t8 : 0 < n := by omega
        have t9 : ¬ n = 0 := by omega
        have t10 : ¬ (n : Int) = 0 := by omega
        have t7 : ((n : Int) == 0) = false := by rw [beq_eq_false_iff_ne]; omega
        have hr' := hr.symm
        have t6 : (m : Int) < (keeps.length : Int) := by omega
        clear hmm ha har hcells hcl hK hr hb1 hKa hn hd hS hm hke hKl hgk hxu
        go_wp2
        go_quiet (fail)
        go_wp2
        have wb : Below wr.heap.size wr (wr.drewN nq) := below_drewN (Below.refl _ _) nq
        have k2 := k1.at_ wb
        have s2 := s1.trans (DStp.of wb (Nat.le_of_lt k1.lt))
        have row2 := row.at_ wb
        have hb2 := hb0.at_ wb
        have o1 := Only.setCell (wr.drewN nq) x.2 1 (.int .i64 (S : Int))
        have dF := DStp.only hb2 (.inr rfl) o1 hB
        have bF0 := hb2.set_ 1 (.int .i64 (S : Int))
        have bF := bF0.drew
        have bT := bufDrew ((bT0.at_ wb).dstp dF)
        clear bT0 hb0 hb2 hbuf0 hlk q0 q1 e1 f1 cN wb
        apply wp_region_rel_below_tail 13 [[(6, none)], [(6, none)], [(63, some 1)], [(64, some 2)], [(65, some 3)], [(6, none)], [(67, some 5)], [(68, some 6)], [(69, some 7)], [(66, some 4), (70, some 8)], [(71, some 9)], [(62, some 0)], [(73, some 11)]] [eqv _, eqv _, eqv _, eqv _, eqv _, eqv _, eqv _, eqv _, eqv _, eqv _, bufR (x.1.b.take S), eqv _, eqv _] (by kernel_rfl) (by kernel_rfl)
        case hobs =>
          refine ⟨?_, ?_⟩
          · rintro L a1 w1 hT - - ⟨h6, -⟩   -- 0: Op.move t6
            have e6 : a1.tmps.getD 6 undef = _ := h6
            have f6 := getD_form e6
            clear h6
            go_simp; exact left_intro rfl (Stp.refl _) trivial
          refine ⟨?_, ?_⟩
          · rintro L a1 w1 hT - - ⟨h6, -⟩   -- 1: Op.move t6
            have e6 : a1.tmps.getD 6 undef = _ := h6
            have f6 := getD_form e6
            clear h6
            go_simp; exact left_intro rfl (Stp.refl _) trivial
          refine ⟨?_, ?_⟩
          · rintro L a1 w1 hT - - ⟨h63, -⟩   -- 2: Op.nilCheck t63
            have e63 : a1.tmps.getD 63 undef = _ := h63
            have f63 := getD_form e63
            clear h63
            go_simp; exact left_intro rfl (Stp.refl _) trivial
          refine ⟨?_, ?_⟩
          · rintro L a1 w1 hT - - ⟨h64, -⟩   -- 3: Op.fieldAddr 131 t64 0
            have e64 : a1.tmps.getD 64 undef = _ := h64
            have f64 := getD_form e64
            clear h64
            go_simp; exact left_intro rfl (Stp.refl _) trivial
          refine ⟨?_, ?_⟩
          · rintro L a1 w1 hT - - ⟨h65, -⟩   -- 4: Op.load 41 t65
            have e65 : a1.tmps.getD 65 undef = _ := h65
            have f65 := getD_form e65
            clear h65
            have c0 := (bF.at_ hT).cellv (i := 0) rfl
            go_simp; exact left_intro rfl (Stp.refl _) trivial
          refine ⟨?_, ?_⟩
          · rintro L a1 w1 hT - - ⟨h6, -⟩   -- 5: Op.move t6
            have e6 : a1.tmps.getD 6 undef = _ := h6
            have f6 := getD_form e6
            clear h6
            go_simp; exact left_intro rfl (Stp.refl _) trivial
          refine ⟨?_, ?_⟩
          · rintro L a1 w1 hT - - ⟨h67, -⟩   -- 6: Op.nilCheck t67
            have e67 : a1.tmps.getD 67 undef = _ := h67
            have f67 := getD_form e67
            clear h67
            go_simp; exact left_intro rfl (Stp.refl _) trivial
          refine ⟨?_, ?_⟩
          · rintro L a1 w1 hT - - ⟨h68, -⟩   -- 7: Op.fieldAddr 131 t68 1
            have e68 : a1.tmps.getD 68 undef = _ := h68
            have f68 := getD_form e68
            clear h68
            go_simp; exact left_intro rfl (Stp.refl _) trivial
          refine ⟨?_, ?_⟩
          · rintro L a1 w1 hT - - ⟨h69, -⟩   -- 8: Op.load 3 t69
            have e69 : a1.tmps.getD 69 undef = _ := h69
            have f69 := getD_form e69
            clear h69
            have c1 := (bF.at_ hT).cellv (i := 1) rfl
            go_simp; exact left_intro rfl (Stp.refl _) trivial
          refine ⟨?_, ?_⟩
          · rintro L a1 w1 hT - - ⟨h66, h70, -⟩   -- 9: Op.slice 41 t66 none (some t70) none
            have e66 : a1.tmps.getD 66 undef = _ := h66
            have f66 := getD_form e66
            have e70 : a1.tmps.getD 70 undef = _ := h70
            have f70 := getD_form e70
            clear h66 h70
            go_simp; exact left_intro rfl (Stp.refl _) trivial
          refine ⟨?_, ?_⟩
          · rintro L a1 w1 hT - - ⟨h71, -⟩   -- 10: Op.call { value (Operand.func 78), args := #[t71], argTypes := #[41] }
            have e71 : a1.tmps.getD 71 undef = _ := h71
            have f71 := getD_form e71
            clear h71
            have bT1 := bT.at_ hT
            go_simp; go_at_call 78; (with_reducible refine (CC.out _ bT1).mono ?_); rintro e w2 ⟨v9, rfl, hbuf9, -, hb⟩; exact left_intro (T := Stp) (Ph := fun _ _ _ => True) (show bufR _ _ _ from hbuf9) (Stp.of hb) trivial
          refine ⟨?_, ?_⟩
          · rintro L a1 w1 hT - - ⟨h62, -⟩   -- 11: Op.nilCheck t62
            have e62 : a1.tmps.getD 62 undef = _ := h62
            have f62 := getD_form e62
            clear h62
            go_simp; exact left_intro rfl (Stp.refl _) trivial
          refine ⟨?_, ?_⟩
          · rintro L a1 w1 hT - - ⟨h73, -⟩   -- 12: Op.fieldAddr 131 t73 0
            have e73 : a1.tmps.getD 73 undef = _ := h73
            have f73 := getD_form e73
            clear h73
            go_simp; exact left_intro rfl (Stp.refl _) trivial
          trivial
        case hmono => repeat (first | exact trivial | refine ⟨fun _ _ _ _ h => h, ?_⟩ | refine ⟨mono_blkRow _ _ _ _, ?_⟩ | refine ⟨mono_bufR _, ?_⟩)
        case hend =>
          intro w2 hT
          rintro _ rfl _ rfl _ rfl _ rfl _ rfl _ rfl _ rfl _ rfl _ rfl _ rfl v72 hb72 _ rfl _ rfl
          change wpList _ _ _ _ _ _
          simp only [Act.put, List.setIfInBounds_toArray, List.set_cons_succ, List.set_cons_zero, List.drop_succ_cons, List.drop_zero]
          obtain ⟨A9, L9, c9, rfl⟩ := hb72.shape2
          have b9 := bF0.at_ hT
          have q9 := b9.cellv (i := 0) (v := .slice A0 x.1.b.length cp0) rfl
          have f9 := b9.free 0
          have o9 := Only.setCell w2 x.2 0 (.slice A9 L9 c9)
          have key := k2.setFileG (w' := w2.setCell ⟨x.2, 0, none⟩ (.slice A9 L9 c9)) hx (grown3 o1 hT o9) (b9.set_ 0 (.slice A9 L9 c9)) (hb72.dstp (DStp.only b9 (.inr rfl) o9 hB)) (D.crashF keeps k) hcr (fun _ => rfl) (by rw [List.length_take]; omega)
          have key2 := row2.dstp key.2 (by decide) (by decide)
          have Key := Lib.hid key
          have Key2 := Lib.hid key2
          clear key key2 o9 o1 dF bF bF0 bT b9 hT hb72 k2 row2 CC
          go_wp2
          go_roundw
          case rel => exact ⟨k + 1, _, rfl, by omega, by have e9 := Key.out.1; rw [hstep] at e9; exact e9, s2.trans Key.out.2, Key2.out⟩
          case measure => simp [intOf]; omega
end Go.Proofs.Ytknkbioalohofaa
