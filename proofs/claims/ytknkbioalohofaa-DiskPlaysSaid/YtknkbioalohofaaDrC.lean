/- The walk of the document's disk's Put. -/
import Derived.Test.YtknkbioalohofaaDrB
namespace Go.Proofs.Ytknkbioalohofaa
open Go.RowKit

namespace D
theorem putGo_cons (f : Fl) (d : Bool) (x : Fl) (r : List Fl) : putGo f d (x :: r) = (if d = false ∧ bytesBefore x.name f.name = false then [f] else []) ++ ((if x.name = f.name then [] else [x]) ++ putGo f (d || !bytesBefore x.name f.name) r) := by rw [putGo]
end D
theorem one_filC (f : D.Fl) : ∀ u ∈ ([filC f] : List (List Value)).flatten, u.oneCell' = true := by
  intro u hu
  simp [filC] at hu
  rcases hu with rfl | rfl | rfl <;> rfl
theorem len_filC (f : D.Fl) : ∀ x ∈ ([filC f] : List (List Value)), x.length = 3 := by
  intro x hx
  rw [List.mem_singleton.1 hx]; rfl
theorem frow_snoc {w : World} {v : Value} {l : List D.Fl} {f : D.Fl} (h : RowN w 81 3 v (l.map filC ++ [filC f])) : FRow w v (l ++ [f]) := by
  unfold FRow
  rw [List.map_append]
  exact h
theorem frow_open {w : World} {v : Value} {l : List D.Fl} (h : FRow w v l) : ∃ A c, v = .slice A l.length c ∧ FRow w (.slice A l.length c) l := by
  obtain ⟨A, c, rfl, h⟩ := rowN_open h
  rw [List.length_map] at h ⊢
  exact ⟨A, c, rfl, h⟩
theorem Blk.grownNe {w w' : World} {g : Nat} {cs : Array Value} {t : TypeId} {row : Option Nat} (h : Blk w g cs t) (hg : w.grownBy w' row) (hr : row ≠ some g) : Blk w' g cs t := (hg.block g h.lt (Ne.symm hr)).trans h
theorem three_new (w : World) (a b c : Array Value) (s t u : TypeId) : ∃ W, W = ((w.alloc (.cells a s)).alloc (.cells b t)).alloc (.cells c u) ∧ Blk W w.heap.size a s ∧ Blk W (w.heap.size + 1) b t ∧ Blk W (w.heap.size + 2) c u ∧ Below w.heap.size w W ∧ W.heap.size = w.heap.size + 3 := by
  obtain ⟨h0, h1, h2⟩ := two_new w a b s t
  have h3 := Blk.new ((w.alloc (.cells a s)).alloc (.cells b t)) c u
  simp only [World.size_alloc] at h3
  exact ⟨_, rfl, h0.alloc _, h1.alloc _, h3, h2.alloc h2.size _, by simp only [World.size_alloc]⟩
theorem geq_before (x y : List UInt8) (w : World) : (binOp .geq 9 (.string ⟨x.toArray⟩) (.string ⟨y.toArray⟩)).run Try.prog w = .ok (.bool (!bytesBefore x y)) w := by
  have h : (Op.stringOp .geq ⟨x.toArray⟩ ⟨y.toArray⟩).run Try.prog w = .ok (.bool (!bytesBefore x y)) w := by
    unfold Op.stringOp
    simp only [str_list, D.less_before]
    rfl
  exact h
theorem frow_snoc' {w : World} {v : Value} {l : List D.Fl} {f g : D.Fl} (h : RowN w 81 3 v (l.map filC ++ [filC f] ++ [filC g])) : RowN w 81 3 v ((l ++ [f]).map filC ++ [filC g]) := by
  rw [List.map_append]
  exact h
theorem new2 (w : World) (o : Obj) (x : List Value) (cs : Array Value) (hc : cs = x.toArray) (t : TypeId) : ∀ (j : Nat) (u : Value), ([x] : List (List Value)).flatten[j]? = some u → ((w.alloc o).alloc (.cells cs t)).cell? ((⟨w.heap.size + 1, 0, none⟩ : Addr).add j) = some u := by
  have := new_cellsN (w.alloc o) x cs hc t
  rw [World.size_alloc] at this
  exact this
/-- What is left behind the last stores: the result's block, and nothing else below. -/
theorem put_end {W : World} {g0 g2 : Nat} {a b c d x y z u : Value} (C0 : Blk W g0 #[a, b, c, d] 76) (C2 : Blk W g2 #[x, y, z, u] 76) (hne : g2 ≠ g0) (v : Value) :
    ∃ W', W' = (((((W.setCell ⟨g0, 3, none⟩ v).setCell ⟨g2, 0, none⟩ a).setCell ⟨g2, 1, none⟩ b).setCell ⟨g2, 2, none⟩ c).setCell ⟨g2, 3, none⟩ v) ∧ Blk W' g2 #[a, b, c, v] 76 ∧ (∀ B X, B ≤ g0 → B ≤ g2 → Below B X W → Below B X W') ∧ (∀ o l, FRow W o l → FRow W' o l) := by
  have o0 := Only.setCell W g0 3 v
  obtain ⟨b2, o2⟩ := blk4 (C2.far (p := ⟨g0, 3, none⟩) hne v) a b c v
  exact ⟨_, rfl, b2, fun B X h0 h2 h => o2.below (o0.below h h0) h2, fun o l h => RowN.only (RowN.only h C0 (by decide) o0) (C2.far (p := ⟨g0, 3, none⟩) hne v) (by decide) o2⟩
set_option maxRecDepth 100000 in
set_option maxHeartbeats 4000000 in
theorem rput_any (M : D.Dk) (f : D.Fl) (A : Option Addr) (c : Nat) (w : World) (h : FRead w (.slice A M.files.length c) M.files) (hl : M.files.length ≤ 1000000) :
    Calls Try.prog 97 #[dskV M (.slice A M.files.length c), filV f] w fun e w' => ∃ A' c', e = .returned (dskV { M with files := D.putGo f false M.files } (.slice A' (D.putGo f false M.files).length c')) ∧ FRow w' (.slice A' (D.putGo f false M.files).length c') (D.putGo f false M.files) ∧ Below w.heap.size w w' := by
  obtain ⟨room, fuse, dead, l⟩ := M
  obtain ⟨fn, fb, fs⟩ := f
  obtain ⟨F, hF⟩ : ∃ F : D.Fl, F = ⟨fn, fb, fs⟩ := ⟨_, rfl⟩
  rw [← hF]
  have hFV : filV F = .agg #[.string ⟨fn.toArray⟩, .string ⟨fb.toArray⟩, .int .i64 (fs : Int)] := by rw [hF]; rfl
  have hFn : F.name = fn := by rw [hF]
  have hFC : filC F = [.string ⟨fn.toArray⟩, .string ⟨fb.toArray⟩, .int .i64 (fs : Int)] := by rw [hF]; rfl
  rw [hFV]
  dsimp only at h hl ⊢
  unfold dskV
  dsimp only
  clear hF hFV
  obtain ⟨W0, hW0, B0, B1, B2, hB0, hsz0⟩ := three_new w #[.int .i64 room, .int .i64 fuse, .bool dead, .slice A l.length c] #[.string ⟨fn.toArray⟩, .string ⟨fb.toArray⟩, .int .i64 (fs : Int)] #[.int .i64 0, .int .i64 0, .bool false, .slice none 0 0] 76 81 76
  have r0 : FRow (W0.alloc (.cells #[] 81)) (.slice (some ⟨W0.heap.size, 0, none⟩) 0 0) [] := RowN.build W0 _ 3 [] #[] 0 rfl (by simp) rfl (by omega)
  have hb0 := (Below.refl W0.heap.size W0).alloc (Nat.le_refl _) (.cells #[] 81)
  rw [hsz0] at r0
  have ho0 : (Value.slice (some ⟨w.heap.size + 3, 0, none⟩) 0 0).ownBlock = none ∨ ∃ k, W0.heap.size ≤ k ∧ (Value.slice (some ⟨w.heap.size + 3, 0, none⟩) 0 0).ownBlock = some k := .inr ⟨_, Nat.le_of_eq hsz0, rfl⟩
  have hW0' := Lib.hid hW0
  go_enter Try.func97, Try.ntmps97
  go_wp2
  rw [← hW0]
  clear hW0
  go_loopw [5, 6, 13] (fun u dn i wr => ∃ (k : Nat) (acc : List D.Fl) (d : Bool), k ≤ l.length ∧ acc.length ≤ k + d.toNat ∧ i = .int .i64 (k : Int) ∧ dn = .bool d ∧ D.putGo F false l = acc ++ D.putGo F d (l.drop k) ∧ FRow wr u acc ∧ (u.ownBlock = none ∨ ∃ k, W0.heap.size ≤ k ∧ u.ownBlock = some k) ∧ Below W0.heap.size W0 wr) (fun _ _ i _ => l.length - (intOf i).toNat)
  case atStart => exact ⟨0, [], false, Nat.zero_le _, by simp, rfl, rfl, by rw [List.drop_zero, List.nil_append], r0, ho0, hb0⟩
  case round =>
    clear r0 hb0 ho0
    obtain ⟨k, acc, d, hk, hacc, rfl, rfl, hgo, hrow, hown, hB⟩ := hrel
    obtain ⟨A9, m9, c9, rfl, hm9, hrow⟩ := rowN_open' hrow
    have Hm9 := Lib.hid hm9
    clear hm9
    have hBw : Below w.heap.size w wr := hB0.trans (hB.mono hB0.size)
    have hacc1 : acc.length ≤ 1000001 := by have := Bool.toNat_le d; omega
    have q0 : (0 : Int) ≤ (k : Int) := by omega
    have C0 := B0.below hB (by omega)
    have C1 := B1.below hB (by omega)
    have C2 := B2.below hB (by omega)
    have hwz : w.heap.size + 3 ≤ wr.heap.size := by have := hB.size; omega
    by_cases hm : k < l.length
    · have d1 : decide ((k : Int) < (l.length : Int)) = true := decide_eq_true (by omega)
      have q1 : (k : Int) < (l.length : Int) := by omega
      obtain ⟨x, hx⟩ : ∃ f, l[k]? = some f := ⟨_, List.getElem?_eq_getElem hm⟩
      obtain ⟨g, o, rfl, hg, cR⟩ := fread_at (h.at_ (hBw.mono (Nat.le_refl _))) hx
      have hdr : l.drop k = x :: l.drop (k + 1) := by
        rw [List.drop_eq_getElem_cons hm]
        rw [List.getElem?_eq_getElem hm] at hx
        injection hx with hx
        rw [hx]
      rw [hdr] at hgo
      rw [D.putGo_cons, hFn] at hgo
      obtain ⟨nm, b, s⟩ := x
      have cR' : wr.rangeAt g (o + k * 3) [.string ⟨nm.toArray⟩, .string ⟨b.toArray⟩, .int .i64 (s : Int)] := cR
      have hsz : (Try.prog.info? 81).map (·.size) = some [Value.string ⟨nm.toArray⟩, .string ⟨b.toArray⟩, .int .i64 (s : Int)].length := size_file
      have hw1 : IntKind.i64.wrap ((k : Int) + 1) = ((k + 1 : Nat) : Int) := by rw [IntWalk.i64_in _ (by omega)]; omega
      have hge := geq_before nm fn
      dsimp only at hgo
      have C1a := C1.alloc (.cells #[Value.string ⟨nm.toArray⟩, .string ⟨b.toArray⟩, .int .i64 (s : Int)] 81)
      have X1 := Blk.new wr #[Value.string ⟨nm.toArray⟩, .string ⟨b.toArray⟩, .int .i64 (s : Int)] 81
      have hBa := hB.alloc hB.size (.cells #[Value.string ⟨nm.toArray⟩, .string ⟨b.toArray⟩, .int .i64 (s : Int)] 81)
      have hrowa := hrow.alloc (.cells #[Value.string ⟨nm.toArray⟩, .string ⟨b.toArray⟩, .int .i64 (s : Int)] 81)
      have c10 := C1.cellv (i := 0) rfl
      have c11 := C1.cellv (i := 1) rfl
      have c12 := C1.cellv (i := 2) rfl
      have a10 := C1a.cellv (i := 0) rfl
      have a11 := C1a.cellv (i := 1) rfl
      have a12 := C1a.cellv (i := 2) rfl
      have hne : (Value.slice A9 m9 c9).ownBlock ≠ some wr.heap.size := fun e => absurd (RowN.lt hrow e) (Nat.lt_irrefl _)
      have hlt1 : w.heap.size + 1 < W0.heap.size := by omega
      have Hne := Lib.hid hne
      clear hne
      have hone := one_filC F
      rw [hFC] at hone
      clear hdr hx cR
      by_cases hins : d = false ∧ bytesBefore nm fn = false
      · obtain ⟨rfl, hbf⟩ := hins
        rw [hbf] at hge hgo
        rw [if_pos ⟨rfl, rfl⟩] at hgo
        by_cases he : nm = fn
        · have e1 : (nm == fn) = true := by simp [he]
          rw [if_pos he] at hgo
          have Hgo := Lib.hid (show D.putGo F false l = (acc ++ [F]) ++ D.putGo F true (l.drop (k + 1)) by rw [hgo]; simp)
          clear hgo he hbf
          go_wp2_with (first | (refine wpList_load_mid rfl 81 (.tmp 15) rfl g (o + k * 3) rfl _ _ cR' Try.underlying81 rfl hsz ?_; go_frame) | (at_builtin; (refine wpList_append_rowN rfl info_file (.tmp 26) (.tmp 28) 74 rfl Try.underlying74 rfl (hrowa.alloc _) ⟨wr.heap.size + 1, 0, none⟩ 1 1 [[.string ⟨fn.toArray⟩, .string ⟨fb.toArray⟩, .int .i64 (fs : Int)]] rfl rfl (by simp) (new2 wr _ _ _ rfl _) hone (by rw [List.length_map]; omega) ?_; intro v3 w3 hrow3 hg3 hr3; have hBb := hBa.alloc hBa.size (.cells #[.string ⟨fn.toArray⟩, .string ⟨fb.toArray⟩, .int .i64 (fs : Int)] 81); have hB3 := below_grown_own hBb hBb.size hg3 hown; have hown3 := own_later hown hBb.size hr3; rw [← hFC] at hrow3; have C3 := B1.below hB3 hlt1; have X3 := (X1.alloc (.cells #[.string ⟨fn.toArray⟩, .string ⟨fb.toArray⟩, .int .i64 (fs : Int)] 81)).grownNe hg3 Hne.out; have c30 := C3.cellv (i := 0) rfl; have x30 := X3.cellv (i := 0) rfl; have x31 := X3.cellv (i := 1) rfl; have x32 := X3.cellv (i := 2) rfl)))
          go_roundw
          case rel => exact ⟨k + 1, acc ++ [F], true, by omega, by rw [List.length_append, List.length_singleton]; simp at hacc ⊢; omega, by rfl, rfl, Hgo.out, frow_snoc hrow3, hown3, hB3⟩
          case measure => simp [intOf]; omega
        · have e1 : (nm == fn) = false := by simp [he]
          rw [if_neg he] at hgo
          have Hgo := Lib.hid (show D.putGo F false l = (acc ++ [F] ++ [⟨nm, b, s⟩]) ++ D.putGo F true (l.drop (k + 1)) by rw [hgo]; simp)
          clear hgo he hbf
          go_wp2_with (first | (refine wpList_load_mid rfl 81 (.tmp 15) rfl g (o + k * 3) rfl _ _ cR' Try.underlying81 rfl hsz ?_; go_frame) | (at_builtin; (refine wpList_append_rowN rfl info_file (.tmp 26) (.tmp 28) 74 rfl Try.underlying74 rfl (hrowa.alloc _) ⟨wr.heap.size + 1, 0, none⟩ 1 1 [[.string ⟨fn.toArray⟩, .string ⟨fb.toArray⟩, .int .i64 (fs : Int)]] rfl rfl (by simp) (new2 wr _ _ _ rfl _) hone (by rw [List.length_map]; omega) ?_; intro v3 w3 hrow3 hg3 hr3; have hBb := hBa.alloc hBa.size (.cells #[.string ⟨fn.toArray⟩, .string ⟨fb.toArray⟩, .int .i64 (fs : Int)] 81); have hB3 := below_grown_own hBb hBb.size hg3 hown; have hown3 := own_later hown hBb.size hr3; rw [← hFC] at hrow3; have C3 := B1.below hB3 hlt1; have X3 := (X1.alloc (.cells #[.string ⟨fn.toArray⟩, .string ⟨fb.toArray⟩, .int .i64 (fs : Int)] 81)).grownNe hg3 Hne.out; have c30 := C3.cellv (i := 0) rfl; have x30 := X3.cellv (i := 0) rfl; have x31 := X3.cellv (i := 1) rfl; have x32 := X3.cellv (i := 2) rfl)) | (at_builtin; (refine wpList_append_rowN rfl info_file (.tmp 35) (.tmp 37) 74 rfl Try.underlying74 rfl (hrow3.alloc _) ⟨w3.heap.size, 0, none⟩ 1 1 [filC ⟨nm, b, s⟩] rfl rfl (len_filC _) (new_cellsN w3 _ _ rfl _) (one_filC _) (by rw [List.length_append, List.length_map, List.length_singleton]; omega) ?_; intro v5 w5 hrow5 hg5 hr5; have hBd := hB3.alloc hB3.size (.cells #[Value.string ⟨nm.toArray⟩, .string ⟨b.toArray⟩, .int .i64 (s : Int)] 81); have hB5 := below_grown_own hBd hBd.size hg5 hown3; have hown5 := own_later hown3 hBd.size hr5)))
          go_roundw
          case rel => exact ⟨k + 1, acc ++ [F] ++ [⟨nm, b, s⟩], true, by omega, by simp at hacc ⊢; omega, by rfl, rfl, Hgo.out, frow_snoc (frow_snoc' hrow5), hown5, hB5⟩
          case measure => simp [intOf]; omega
      · rw [if_neg hins, List.nil_append] at hgo
        have hd9 : (d || !bytesBefore nm fn) = d := by
          cases d with
          | true => rfl
          | false =>
            have : bytesBefore nm fn = true := by
              cases hb : bytesBefore nm fn with
              | true => rfl
              | false => exact absurd ⟨rfl, hb⟩ hins
            rw [this]; rfl
        rw [hd9] at hgo
        have hge2 : d = false → ∀ w, (binOp .geq 9 (.string ⟨nm.toArray⟩) (.string ⟨fn.toArray⟩)).run Try.prog w = .ok (.bool false) w := by
          rintro rfl w
          rw [hge w]
          have : bytesBefore nm fn = true := by
            cases hb : bytesBefore nm fn with
            | true => rfl
            | false => exact absurd ⟨rfl, hb⟩ hins
          rw [this]; rfl
        clear hge hins hd9
        have hb1 : acc.length + 1 ≤ k + 1 + d.toNat := by omega
        by_cases he : nm = fn
        · have e1 : (nm == fn) = true := by simp [he]
          rw [if_pos he, List.nil_append] at hgo
          have Hgo := Lib.hid hgo
          clear hgo he
          cases d with
          | true =>
            clear hge2
            go_wp2_with (first | (refine wpList_load_mid rfl 81 (.tmp 15) rfl g (o + k * 3) rfl _ _ cR' Try.underlying81 rfl hsz ?_; go_frame))
            go_roundw
            case rel => exact ⟨k + 1, acc, true, by omega, by omega, by rfl, rfl, Hgo.out, hrowa, hown, hBa⟩
            case measure => simp [intOf]; omega
          | false =>
            have hge := hge2 rfl
            clear hge2
            go_wp2_with (first | (refine wpList_load_mid rfl 81 (.tmp 15) rfl g (o + k * 3) rfl _ _ cR' Try.underlying81 rfl hsz ?_; go_frame))
            go_roundw
            case rel => exact ⟨k + 1, acc, false, by omega, by omega, by rfl, rfl, Hgo.out, hrowa, hown, hBa⟩
            case measure => simp [intOf]; omega
        · have e1 : (nm == fn) = false := by simp [he]
          rw [if_neg he] at hgo
          have Hgo := Lib.hid (show D.putGo F false l = (acc ++ [⟨nm, b, s⟩]) ++ D.putGo F d (l.drop (k + 1)) by rw [hgo, List.append_assoc])
          clear hgo he
          have x10 := X1.cellv (i := 0) rfl
          have x11 := X1.cellv (i := 1) rfl
          have x12 := X1.cellv (i := 2) rfl
          cases d with
          | true =>
            clear hge2
            go_wp2_with (first | (refine wpList_load_mid rfl 81 (.tmp 15) rfl g (o + k * 3) rfl _ _ cR' Try.underlying81 rfl hsz ?_; go_frame) | (at_builtin; (refine wpList_append_rowN rfl info_file (.tmp 35) (.tmp 37) 74 rfl Try.underlying74 rfl (hrowa.alloc _) ⟨wr.heap.size + 1, 0, none⟩ 1 1 [filC ⟨nm, b, s⟩] rfl rfl (len_filC _) (new2 wr _ _ _ rfl _) (one_filC _) (by rw [List.length_map]; omega) ?_; intro v3 w3 hrow3 hg3 hr3; have hBb := hBa.alloc hBa.size (.cells #[Value.string ⟨nm.toArray⟩, .string ⟨b.toArray⟩, .int .i64 (s : Int)] 81); have hB3 := below_grown_own hBb hBb.size hg3 hown; have hown3 := own_later hown hBb.size hr3)))
            go_roundw
            case rel => exact ⟨k + 1, acc ++ [⟨nm, b, s⟩], true, by omega, by rw [List.length_append, List.length_singleton]; omega, by rfl, rfl, Hgo.out, frow_snoc hrow3, hown3, hB3⟩
            case measure => simp [intOf]; omega
          | false =>
            have hge := hge2 rfl
            clear hge2
            go_wp2_with (first | (refine wpList_load_mid rfl 81 (.tmp 15) rfl g (o + k * 3) rfl _ _ cR' Try.underlying81 rfl hsz ?_; go_frame) | (at_builtin; (refine wpList_append_rowN rfl info_file (.tmp 35) (.tmp 37) 74 rfl Try.underlying74 rfl (hrowa.alloc _) ⟨wr.heap.size + 1, 0, none⟩ 1 1 [filC ⟨nm, b, s⟩] rfl rfl (len_filC _) (new2 wr _ _ _ rfl _) (one_filC _) (by rw [List.length_map]; omega) ?_; intro v3 w3 hrow3 hg3 hr3; have hBb := hBa.alloc hBa.size (.cells #[Value.string ⟨nm.toArray⟩, .string ⟨b.toArray⟩, .int .i64 (s : Int)] 81); have hB3 := below_grown_own hBb hBb.size hg3 hown; have hown3 := own_later hown hBb.size hr3)))
            go_roundw
            case rel => exact ⟨k + 1, acc ++ [⟨nm, b, s⟩], false, by omega, by rw [List.length_append, List.length_singleton]; omega, by rfl, rfl, Hgo.out, frow_snoc hrow3, hown3, hB3⟩
            case measure => simp [intOf]; omega
    · have d1 : decide ((k : Int) < (l.length : Int)) = false := decide_eq_false (by omega)
      have d2 : decide (k < l.length) = false := decide_eq_false hm
      rw [List.drop_of_length_le (by omega)] at hgo
      cases d with
      | true =>
        have hgo' : D.putGo F false l = acc := by rw [hgo]; unfold D.putGo; simp
        have Hgo := Lib.hid hgo'
        clear hgo hgo'
        obtain ⟨c00, c01, c02, c03, f00, f01, f02, f03⟩ := free4 C0
        obtain ⟨c20, c21, c22, c23, f20, f21, f22, f23⟩ := free4 C2
        go_wp2
        obtain ⟨W', hW', b2, hB2, hR2⟩ := put_end C0 C2 (by omega) (.slice A9 m9 c9)
        rw [← hW']
        refine bodyPost_ret (v := .agg #[.int .i64 room, .int .i64 fuse, .bool dead, .slice A9 m9 c9]) (results_blk (by rfl) _ b2 _ (by rfl) Try.underlying76 (by rfl) (size_dskC _ _ _ _)) rfl ?_
        rw [Hgo.out]
        have hml : m9 = acc.length := by rw [Hm9.out, List.length_map]
        rw [← hml]
        exact ⟨A9, c9, rfl, hR2 _ _ hrow, hB2 _ _ (by omega) (by omega) hBw⟩
      | false =>
        have hgo' : D.putGo F false l = acc ++ [F] := by rw [hgo]; unfold D.putGo; simp
        have Hgo := Lib.hid hgo'
        clear hgo hgo'
        have c10 := C1.cellv (i := 0) rfl
        have c11 := C1.cellv (i := 1) rfl
        have c12 := C1.cellv (i := 2) rfl
        have hone := one_filC F
        rw [hFC] at hone
        have hlt0 : w.heap.size < W0.heap.size := by omega
        have hlt2 : w.heap.size + 2 < W0.heap.size := by omega
        go_wp2_with ((at_builtin; (refine wpList_append_rowN rfl info_file (.tmp 42) (.tmp 44) 74 rfl Try.underlying74 rfl (RowN.alloc hrow _) ⟨wr.heap.size, 0, none⟩ 1 1 [[.string ⟨fn.toArray⟩, .string ⟨fb.toArray⟩, .int .i64 (fs : Int)]] rfl rfl (by simp) (new_cellsN wr _ _ rfl _) hone (by rw [List.length_map]; omega) ?_; intro v3 w3 hrow3 hg3 hr3; have hBb := hB.alloc hB.size (.cells #[.string ⟨fn.toArray⟩, .string ⟨fb.toArray⟩, .int .i64 (fs : Int)] 81); have hB3 := below_grown_own hBb hBb.size hg3 hown; rw [← hFC] at hrow3; obtain ⟨A3, m3, c3, rfl, hm3, hrow3⟩ := rowN_open' hrow3; have Hm3 := Lib.hid hm3; clear hm3; have D0 := B0.below hB3 hlt0; have D2 := B2.below hB3 hlt2; obtain ⟨c00, c01, c02, c03, f00, f01, f02, f03⟩ := free4 D0; obtain ⟨c20, c21, c22, c23, f20, f21, f22, f23⟩ := free4 D2)))
        obtain ⟨W', hW', b2, hB2, hR2⟩ := put_end D0 D2 (by omega) (.slice A3 m3 c3)
        rw [← hW']
        refine bodyPost_ret (v := .agg #[.int .i64 room, .int .i64 fuse, .bool dead, .slice A3 m3 c3]) (results_blk (by rfl) _ b2 _ (by rfl) Try.underlying76 (by rfl) (size_dskC _ _ _ _)) rfl ?_
        rw [Hgo.out]
        have hml : m3 = (acc ++ [F]).length := by rw [Hm3.out, List.length_append, List.length_append, List.length_map]; rfl
        rw [← hml]
        exact ⟨A3, c3, rfl, hR2 _ _ (frow_snoc hrow3), hB2 _ _ (by omega) (by omega) (hB0.trans (hB3.mono hB0.size))⟩
end Go.Proofs.Ytknkbioalohofaa
