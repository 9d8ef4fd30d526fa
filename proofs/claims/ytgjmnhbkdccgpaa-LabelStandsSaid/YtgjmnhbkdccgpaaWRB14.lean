/- The walk of the document's Bytes of a tag, labels and texts. -/
import Derived.Test.YtgjmnhbkdccgpaaWLab
import Derived.Deep.Upon
namespace Go.Proofs.Ytgjmnhbkdccgpaa
open Go.RowKit

/-- No label, or one; no text, or one. -/
def Labs (w : World) (v : Value) (xs : List (List UInt8)) : Prop := (v = .slice none 0 0 ∧ xs = []) ∨ ∃ g x t, v = .slice (some ⟨g, 0, none⟩) 1 1 ∧ xs = [x] ∧ x.length = 32 ∧ Blk w g (labA x) t
def Strs (w : World) (v : Value) (ts : List (List UInt8)) : Prop := (v = .slice none 0 0 ∧ ts = []) ∨ ∃ g s t, v = .slice (some ⟨g, 0, none⟩) 1 1 ∧ ts = [s] ∧ Blk w g #[strV s] t
theorem Labs.one {w : World} {b : Nat} {x : List UInt8} {t : TypeId} (hx : x.length = 32) (B : Blk w b (labA x) t) : Labs w (.slice (some ⟨b, 0, none⟩) 1 1) [x] := .inr ⟨b, x, t, rfl, rfl, hx, B⟩
theorem Strs.one {w : World} {b : Nat} {s : List UInt8} {t : TypeId} (B : Blk w b #[strV s] t) : Strs w (.slice (some ⟨b, 0, none⟩) 1 1) [s] := .inr ⟨b, s, t, rfl, rfl, B⟩
theorem src_none (t e : TypeId) (ht : Try.prog.underlying t = some (.slice e)) (n : Nat) (w : World) : Src Try.prog n t (.slice none 0 0) 0 [] w :=
  ⟨.inl ⟨e, ht⟩, fun w' => by simp [Builtin.lenOf], by simp [Builtin.firstCells], by simp [Builtin.firstCells], by simp, by simp⟩
theorem wpList_append_none {ops : Array Oper} {o : Oper} {a : Act} {w : World} {rest : List Oper} {Q : Exit → Act → World → Prop} (hg : o.guard = none) (s x : Operand) (hop : o.op = Op.call { callee := Callee.builtin Builtin.append, args := #[s, x], argTypes := #[38, 38] }) (A : Option Addr) (n c : Nat) (hs : a.eval s = .slice A n c) (hle : n ≤ c) (hx : a.eval x = .slice none 0 0)
    (hK : wpList Try.prog ops Q rest (a.put o.dst (.slice A n c)) w) : wpList Try.prog ops Q (o :: rest) a w := by
  obtain ⟨i5, hi, _, _, _⟩ := info_parts info_str.1
  have hrun := run_append_nothing (P := Try.prog) w 38 38 o.type 9 i5 Try.underlying38 hi A n c hle (.slice none 0 0) (src_none _ _ Try.underlying38 _ w)
  refine wpList_plain hg fun _ hK' => ?_
  unfold Oper.wp
  simp [execOp, hop, resolve, invoke, builtin, hs, hx, hrun, Result.andThen]
  exact hK' _ _ hK
theorem Row1.kept_only {w w' : World} {e : TypeId} {v : Value} {xs : List Value} {g : Nat} (h : Row1 w e v xs) (o : Only g w w') (hg : v.ownBlock ≠ some g) : Row1 w' e v xs :=
  h.kept fun k hk => o.block k fun e => hg (e ▸ hk)
set_option maxRecDepth 100000 in
set_option maxHeartbeats 2000000 in
theorem r14bytes_any (tag : UInt8) (xs ts : List (List UInt8)) (v1 v2 : Value) (w : World) (h1 : Labs w v1 xs) (h2 : Strs w v2 ts) (hl : (J.joinB tag (xs ++ ts)).length ≤ 140737488355000) :
    Calls Try.prog 35 #[.int .u8 (tag.toNat : Int), v1, v2] w fun e w' => e = .returned (.string ⟨(J.joinB tag (xs ++ ts)).toArray⟩) ∧ Below w.heap.size w w' := by
  have RB := Lib.hid (fun v W (h : SRead W v ((xs ++ ts).map strV)) => rbytes_any tag (xs ++ ts) v W h hl)
  generalize (⟨(J.joinB tag (xs ++ ts)).toArray⟩ : ByteArray) = R at *
  clear hl
  have hr0 : Row1 (w.alloc (.cells #[] 9)) 9 (.slice (some ⟨w.heap.size, 0, none⟩) 0 0) (([] : List (List UInt8)).map strV) := Row1.build w 9 [] #[] 0 rfl rfl (by omega)
  have hb0 := below_alloc1 w (.cells #[] 9)
  rcases h1 with ⟨rfl, rfl⟩ | ⟨g, x, t, rfl, rfl, hx, bx⟩
  · go_enter Try.func35, Try.ntmps35
    go_wp2
    go_loopw [7, 13] (fun v i wr => v = .slice (some ⟨w.heap.size, 0, none⟩) 0 0 ∧ i = .int .i64 0 ∧ wr = w.alloc (.cells #[] 9)) (fun _ _ _ => 0)
    case atStart => exact ⟨rfl, rfl, rfl⟩
    case round =>
      obtain ⟨rfl, rfl, rfl⟩ := hrel
      rcases h2 with ⟨rfl, rfl⟩ | ⟨g2, s, t2, rfl, rfl, bs⟩
      · have RB0 := Lib.hid (RB.out _ _ hr0.reads)
        go_wp2_with (first | (at_builtin; refine wpList_append_none rfl (.tmp 24) (.tmp 25) rfl _ 0 0 rfl (Nat.le_refl _) rfl ?_) | (go_at_call 26; with_reducible refine (RB0.out).mono ?_; rintro e w3 ⟨rfl, hb3⟩))
        go_ret
        exact ⟨rfl, hb0.trans (hb3.mono (by simp))⟩
      · have kc := ((bs.alloc (.cells #[] 9)).cellv (i := 0) rfl)
        go_wp2_with (first | (at_builtin; refine wpList_append_row rfl info_str (.tmp 24) (.tmp 25) 38 rfl Try.underlying38 rfl hr0 ⟨g2, 0, none⟩ 1 1 [strV s] rfl rfl (fun j u hj => by
          match j, hj with
          | 0, hj =>
            obtain rfl : strV s = u := by simpa using hj
            exact kc
          | j + 1, hj => simp at hj) (str_one [s]) (by simp) ?_; intro v3 w3 hr3 hg3 ho3) | (go_at_call 26; with_reducible refine (RB.out _ _ hr3.reads).mono ?_; rintro e w4 ⟨rfl, hb4⟩))
        go_ret
        have hb3 := below_grown_own hb0 (by simp) hg3 (.inr ⟨w.heap.size, Nat.le_refl _, rfl⟩)
        exact ⟨rfl, hb3.trans (hb4.mono hb3.size)⟩
  · have hzx := size_lab x hx
    have hcv := Lib.hid (fun (W : World) (k : Nat) (b : Blk W k (labA x) 25) => lab_conv hx b)
    go_enter Try.func35, Try.ntmps35
    go_wp2
    go_loopw [7, 13] (fun v i wr => ∃ (vl : Value) (k : Nat), vl = v ∧ k ≤ 1 ∧ i = .int .i64 (k : Int) ∧ Row1 wr 9 vl ((([x] : List (List UInt8)).take k).map strV) ∧ (vl.ownBlock = none ∨ ∃ j, w.heap.size ≤ j ∧ vl.ownBlock = some j) ∧ Below w.heap.size w wr) (fun _ i _ => 1 - (intOf i).toNat)
    case atStart => exact ⟨_, 0, rfl, by omega, rfl, hr0, .inr ⟨_, Nat.le_refl _, rfl⟩, hb0⟩
    case round =>
      obtain ⟨vl, k, rfl, hk, rfl, hrow, hown, hB⟩ := hrel
      have hbx := bx.below hB bx.lt
      by_cases hk0 : k = 0
      · subst hk0
        have hrow2 := hrow.alloc (.cells (labA zlab) 25)
        have hnb : vl.ownBlock ≠ some wr.heap.size := fun e => by have := hrow.lt e; omega
        go_wp2_with (first | (refine wpList_load_blk (by rfl) 25 (.tmp 15) (by rfl) (0) (by rfl) (hbx) (labA x) (whole_at) _ Try.underlying25 (by rfl) hzx ?_; simp only [Act.put, List.setIfInBounds_toArray, List.set_cons_succ, List.set_cons_zero]) | (refine wpList_fresh (by rfl) 25 (by rfl) _ fresh_lab ?_; simp only [Act.put, List.setIfInBounds_toArray, List.set_cons_succ, List.set_cons_zero]; try simp only [World.size_alloc]) | ((refine wpList_store_blk (by rfl) 25 (.tmp 9) (.tmp 16) (by rfl) (0) (labA x) (by rfl) (by rfl) ((Blk.new wr (labA zlab) 25)) ((by rw [labA_size, labA_size, hx]; decide)) hzx (labA_all _) ?_; simp only [Act.put]); intro w9 b9 o9; rw [splice_all _ _ (by rw [labA_size, labA_size, hx]; decide)] at b9; have hc9 := hcv.out _ _ b9; have hrow9 := hrow2.kept_only o9 hnb; have hB9 := o9.below (hB.alloc hB.size _) hB.size) | (at_builtin; refine wpList_append_row rfl info_str (.tmp 17) (.tmp 20) 38 rfl Try.underlying38 rfl (hrow9.alloc _) ⟨w9.heap.size, 0, none⟩ 1 1 [strV x] rfl rfl (new_cells _ _ _ rfl _) (str_one [x]) (by simp) ?_; intro v3 w3 hr3 hg3 ho3))
        have hB10 := hB9.alloc (o := .cells #[strV x] 9) hB9.size
        go_roundw
        case rel => exact ⟨v3, 1, rfl, by omega, rfl, hr3, own_later hown hB10.size ho3, below_grown_own hB10 hB10.size hg3 hown⟩
        case measure => simp [intOf]
      · obtain rfl : k = 1 := by omega
        have hrow' : Row1 wr 9 vl [strV x] := hrow
        obtain ⟨gq, cap, rfl, hcap⟩ := hrow'.form_len (n := 1) rfl (by omega)
        rcases h2 with ⟨rfl, rfl⟩ | ⟨g2, s, t2, rfl, rfl, bs⟩
        · have RB0 := Lib.hid (RB.out _ _ hrow'.reads)
          go_wp2_with (first | (at_builtin; refine wpList_append_none rfl (.tmp 24) (.tmp 25) rfl _ 1 cap rfl hcap rfl ?_) | (go_at_call 26; with_reducible refine (RB0.out).mono ?_; rintro e w3 ⟨rfl, hb3⟩))
          go_ret
          exact ⟨rfl, hB.trans (hb3.mono hB.size)⟩
        · have kc := ((bs.below hB bs.lt).cellv (i := 0) rfl)
          go_wp2_with (first | (at_builtin; refine wpList_append_row rfl info_str (.tmp 24) (.tmp 25) 38 rfl Try.underlying38 rfl hrow' ⟨g2, 0, none⟩ 1 1 [strV s] rfl rfl (fun j u hj => by
          match j, hj with
          | 0, hj =>
            obtain rfl : strV s = u := by simpa using hj
            exact kc
          | j + 1, hj => simp at hj) (str_one [s]) (by simp) ?_; intro v3 w3 hr3 hg3 ho3) | (go_at_call 26; with_reducible refine (RB.out _ _ hr3.reads).mono ?_; rintro e w4 ⟨rfl, hb4⟩))
          go_ret
          have hb3 := below_grown_own hB hB.size hg3 hown
          exact ⟨rfl, hb3.trans (hb4.mono hb3.size)⟩
theorem r14bytes_lit (tag : UInt8) (n : Int) (hn : n = (tag.toNat : Int)) (xs ts : List (List UInt8)) (v1 v2 : Value) (w : World) (h1 : Labs w v1 xs) (h2 : Strs w v2 ts) (hl : (J.joinB tag (xs ++ ts)).length ≤ 140737488355000) :
    Calls Try.prog 35 #[.int .u8 n, v1, v2] w fun e w' => e = .returned (.string ⟨(J.joinB tag (xs ++ ts)).toArray⟩) ∧ Below w.heap.size w w' := by
  subst hn
  exact r14bytes_any tag xs ts v1 v2 w h1 h2 hl
end Go.Proofs.Ytgjmnhbkdccgpaa
