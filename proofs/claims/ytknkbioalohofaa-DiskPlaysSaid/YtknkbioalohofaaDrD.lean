/- The walks of the document's disk's Drop, New and Arm. -/
import Derived.Test.YtknkbioalohofaaDrC
namespace Go.Proofs.Ytknkbioalohofaa
open Go.RowKit

set_option maxRecDepth 100000 in
set_option maxHeartbeats 4000000 in
theorem rdrop_any (M : D.Dk) (n : List UInt8) (A : Option Addr) (c : Nat) (w : World) (h : FRead w (.slice A M.files.length c) M.files) (hl : M.files.length ≤ 1000000) :
    Calls Try.prog 98 #[dskV M (.slice A M.files.length c), .string ⟨n.toArray⟩] w fun e w' => ∃ A' c', e = .returned (dskV { M with files := D.drp D.Fl.name n M.files } (.slice A' (D.drp D.Fl.name n M.files).length c')) ∧ FRow w' (.slice A' (D.drp D.Fl.name n M.files).length c') (D.drp D.Fl.name n M.files) ∧ Below w.heap.size w w' := by
  obtain ⟨room, fuse, dead, l⟩ := M
  dsimp only at h hl ⊢
  unfold dskV
  dsimp only
  obtain ⟨B0, B2, hB0⟩ := two_new w #[.int .i64 room, .int .i64 fuse, .bool dead, .slice A l.length c] #[.int .i64 0, .int .i64 0, .bool false, .slice none 0 0] 76 76
  obtain ⟨W0, hW0⟩ : ∃ W, W = (w.alloc (.cells #[.int .i64 room, .int .i64 fuse, .bool dead, .slice A l.length c] 76)).alloc (.cells #[.int .i64 0, .int .i64 0, .bool false, .slice none 0 0] 76) := ⟨_, rfl⟩
  have hsz0 : W0.heap.size = w.heap.size + 2 := by rw [hW0]; simp only [World.size_alloc]
  rw [← hW0] at B0 B2 hB0
  have r0 : FRow (W0.alloc (.cells #[] 81)) (.slice (some ⟨W0.heap.size, 0, none⟩) 0 0) [] := RowN.build W0 _ 3 [] #[] 0 rfl (by simp) rfl (by omega)
  have hb0 := (Below.refl W0.heap.size W0).alloc (Nat.le_refl _) (.cells #[] 81)
  rw [hsz0] at r0
  have ho0 : (Value.slice (some ⟨w.heap.size + 2, 0, none⟩) 0 0).ownBlock = none ∨ ∃ k, W0.heap.size ≤ k ∧ (Value.slice (some ⟨w.heap.size + 2, 0, none⟩) 0 0).ownBlock = some k := .inr ⟨_, Nat.le_of_eq hsz0, rfl⟩
  have hW0' := Lib.hid hW0
  go_enter Try.func98, Try.ntmps98
  go_wp2
  rw [← hW0]
  clear hW0
  go_loopw [5, 12] (fun u i wr => ∃ (k : Nat) (acc : List D.Fl), k ≤ l.length ∧ acc.length ≤ k ∧ i = .int .i64 (k : Int) ∧ D.drp D.Fl.name n l = acc ++ D.drp D.Fl.name n (l.drop k) ∧ FRow wr u acc ∧ (u.ownBlock = none ∨ ∃ k, W0.heap.size ≤ k ∧ u.ownBlock = some k) ∧ Below W0.heap.size W0 wr) (fun _ i _ => l.length - (intOf i).toNat)
  case atStart => exact ⟨0, [], Nat.zero_le _, by simp, rfl, by rw [List.drop_zero, List.nil_append], r0, ho0, hb0⟩
  case round =>
    clear r0 hb0 ho0
    obtain ⟨k, acc, hk, hacc, rfl, hgo, hrow, hown, hB⟩ := hrel
    obtain ⟨A9, m9, c9, rfl, hm9, hrow⟩ := rowN_open' hrow
    have Hm9 := Lib.hid hm9
    clear hm9
    have hBw : Below w.heap.size w wr := hB0.trans (hB.mono hB0.size)
    have q0 : (0 : Int) ≤ (k : Int) := by omega
    have C0 := B0.below hB (by omega)
    have C2 := B2.below hB (by omega)
    have hwz : w.heap.size + 2 ≤ wr.heap.size := by have := hB.size; omega
    by_cases hm : k < l.length
    · have d1 : decide ((k : Int) < (l.length : Int)) = true := decide_eq_true (by omega)
      have q1 : (k : Int) < (l.length : Int) := by omega
      obtain ⟨x, hx⟩ : ∃ f, l[k]? = some f := ⟨_, List.getElem?_eq_getElem hm⟩
      obtain ⟨g, o, rfl, hg, cR⟩ := fread_at (h.at_ (hBw.mono (Nat.le_refl _))) hx
      have hdr : l.drop k = x :: l.drop (k + 1) := by
        rw [List.drop_eq_getElem_cons hm]
        rw [List.getElem?_eq_getElem hm] at hx
        injection hx with hx
        rw [hx]
      rw [hdr, D.drp_cons] at hgo
      obtain ⟨nm, b, s⟩ := x
      have cR' : wr.rangeAt g (o + k * 3) [.string ⟨nm.toArray⟩, .string ⟨b.toArray⟩, .int .i64 (s : Int)] := cR
      have hsz : (Try.prog.info? 81).map (·.size) = some [Value.string ⟨nm.toArray⟩, .string ⟨b.toArray⟩, .int .i64 (s : Int)].length := size_file
      have hw1 : IntKind.i64.wrap ((k : Int) + 1) = ((k + 1 : Nat) : Int) := by rw [IntWalk.i64_in _ (by omega)]; omega
      dsimp only at hgo
      have hBa := hB.alloc hB.size (.cells #[Value.string ⟨nm.toArray⟩, .string ⟨b.toArray⟩, .int .i64 (s : Int)] 81)
      have hrowa := hrow.alloc (.cells #[Value.string ⟨nm.toArray⟩, .string ⟨b.toArray⟩, .int .i64 (s : Int)] 81)
      clear hdr hx cR
      by_cases he : nm = n
      · have e1 : (nm == n) = true := by simp [he]
        rw [if_pos he, List.nil_append] at hgo
        have Hgo := Lib.hid hgo
        clear hgo he
        go_wp2_with (first | (refine wpList_load_mid rfl 81 (.tmp 14) rfl g (o + k * 3) rfl _ _ cR' Try.underlying81 rfl hsz ?_; go_frame))
        go_roundw
        case rel => exact ⟨k + 1, acc, by omega, by omega, by rfl, Hgo.out, hrowa, hown, hBa⟩
        case measure => simp [intOf]; omega
      · have e1 : (nm == n) = false := by simp [he]
        rw [if_neg he] at hgo
        have Hgo := Lib.hid (show D.drp D.Fl.name n l = (acc ++ [⟨nm, b, s⟩]) ++ D.drp D.Fl.name n (l.drop (k + 1)) by rw [hgo, List.append_assoc])
        clear hgo he
        go_wp2_with (first | (refine wpList_load_mid rfl 81 (.tmp 14) rfl g (o + k * 3) rfl _ _ cR' Try.underlying81 rfl hsz ?_; go_frame) | (at_builtin; refine wpList_append_rowN rfl info_file (.tmp 20) (.tmp 22) 74 rfl Try.underlying74 rfl (hrowa.alloc _) ⟨wr.heap.size + 1, 0, none⟩ 1 1 [filC ⟨nm, b, s⟩] rfl rfl (len_filC _) (new2 wr _ _ _ rfl _) (one_filC _) (by rw [List.length_map]; omega) ?_; intro v3 w3 hrow3 hg3 hr3; have hBb := hBa.alloc hBa.size (.cells #[Value.string ⟨nm.toArray⟩, .string ⟨b.toArray⟩, .int .i64 (s : Int)] 81); have hB3 := below_grown_own hBb hBb.size hg3 hown; have hown3 := own_later hown hBb.size hr3))
        go_roundw
        case rel => exact ⟨k + 1, acc ++ [⟨nm, b, s⟩], by omega, by rw [List.length_append, List.length_singleton]; omega, by rfl, Hgo.out, frow_snoc hrow3, hown3, hB3⟩
        case measure => simp [intOf]; omega
    · have d1 : decide ((k : Int) < (l.length : Int)) = false := decide_eq_false (by omega)
      have d2 : decide (k < l.length) = false := decide_eq_false hm
      rw [List.drop_of_length_le (by omega)] at hgo
      have hgo' : D.drp D.Fl.name n l = acc := by rw [hgo]; unfold D.drp; simp
      have Hgo := Lib.hid hgo'
      clear hgo hgo'
      obtain ⟨c00, c01, c02, c03, f00, f01, f02, f03⟩ := free4 C0
      obtain ⟨c20, c21, c22, c23, f20, f21, f22, f23⟩ := free4 C2
      go_wp2
      obtain ⟨W', hW', b2, hB2, hR2⟩ := put_end C0 C2 (by omega) (.slice A9 m9 c9)
      rw [← hW']
      refine bodyPost_ret (v := .agg #[.int .i64 room, .int .i64 fuse, .bool dead, .slice A9 m9 c9]) (results_blk (by rfl) _ b2 _ (by rfl) Try.underlying76 (by rfl) (size_dskC _ _ _ _)) rfl ?_
      rw [Hgo.out]
      have hml : m9 = acc.length := by rw [Hm9.out, List.length_map]
      rw [← hml]
      exact ⟨A9, c9, rfl, hR2 _ _ hrow, hB2 _ _ (by omega) (by omega) hBw⟩
theorem one_new (w : World) (a : Array Value) (s : TypeId) : Blk (w.alloc (.cells a s)) w.heap.size a s ∧ Below w.heap.size w (w.alloc (.cells a s)) := ⟨Blk.new w a s, below_alloc1 w _⟩
set_option maxRecDepth 100000 in
set_option maxHeartbeats 1000000 in
theorem rnew_any (r : Int) (w : World) : Calls Try.prog 50 #[.int .i64 r] w fun e w' => e = .returned (dskV ⟨max r 0, -1, false, []⟩ (.slice none 0 0)) ∧ Below w.heap.size w w' := by
  obtain ⟨m, hm⟩ : ∃ m, m = max r 0 := ⟨_, rfl⟩
  have hmx : max r 0 = m := hm.symm
  rw [hmx]
  clear hm
  go_enter Try.func50, Try.ntmps50
  go_wp2
  obtain ⟨b1, hb⟩ := one_new w #[.int .i64 m, .int .i64 (-1), .bool false, .slice none 0 0] 76
  exact bodyPost_ret (v := .agg #[.int .i64 m, .int .i64 (-1), .bool false, .slice none 0 0]) (results_blk (by rfl) _ b1 _ (by rfl) Try.underlying76 (by rfl) (size_dskC _ _ _ _)) rfl ⟨rfl, hb⟩
set_option maxRecDepth 100000 in
set_option maxHeartbeats 1000000 in
theorem rarm_any (M : D.Dk) (z : Int) (A : Option Addr) (n c : Nat) (w : World) : Calls Try.prog 85 #[dskV M (.slice A n c), .int .i64 z] w fun e w' => e = .returned (dskV (D.arm M z) (.slice A n c)) ∧ Below w.heap.size w w' := by
  obtain ⟨room, fuse, dead, l⟩ := M
  obtain ⟨m, hm⟩ : ∃ m, m = max z (-1) := ⟨_, rfl⟩
  have hmx : max z (-1) = m := hm.symm
  cases dead with
  | true =>
    have Ha := Lib.hid (show D.arm ⟨room, fuse, true, l⟩ z = ⟨room, fuse, true, l⟩ from by unfold D.arm; rfl)
    unfold dskV
    dsimp only
    go_enter Try.func85, Try.ntmps85
    go_wp2
    obtain ⟨-, b1, hb⟩ := two_new w #[.int .i64 room, .int .i64 fuse, .bool true, .slice A n c] #[.int .i64 room, .int .i64 fuse, .bool true, .slice A n c] 76 76
    exact bodyPost_ret (v := .agg #[.int .i64 room, .int .i64 fuse, .bool true, .slice A n c]) (results_blk (by rfl) _ b1 _ (by rfl) Try.underlying76 (by rfl) (size_dskC _ _ _ _)) rfl ⟨by rw [Ha.out], hb⟩
  | false =>
    have Ha := Lib.hid (show D.arm ⟨room, fuse, false, l⟩ z = ⟨room, m, false, l⟩ from by rw [hm]; unfold D.arm; rfl)
    clear hm
    unfold dskV
    dsimp only
    go_enter Try.func85, Try.ntmps85
    go_wp2
    obtain ⟨-, b1, hb⟩ := two_new w #[.int .i64 room, .int .i64 m, .bool false, .slice A n c] #[.int .i64 room, .int .i64 m, .bool false, .slice A n c] 76 76
    exact bodyPost_ret (v := .agg #[.int .i64 room, .int .i64 m, .bool false, .slice A n c]) (results_blk (by rfl) _ b1 _ (by rfl) Try.underlying76 (by rfl) (size_dskC _ _ _ _)) rfl ⟨by rw [Ha.out], hb⟩
end Go.Proofs.Ytknkbioalohofaa
