/- The walk of journal.Open. -/
import Derived.Test.YtknkbioalohofaaJrD
namespace Go.Proofs.Ytknkbioalohofaa
open Go.RowKit

theorem DkAt.grown {B : Nat} {w w' : World} {p : Nat} {M : D.Dk} {e : TypeId} {v : Value} {xs : List Value} (h : DkAt B w p M) (hrow : Row1 w e v xs) (ht : e ≠ 126 ∧ e ≠ 131 ∧ e ≠ 5) (hg : w.grownBy w' v.ownBlock) : DkAt B w' p M := by
  obtain ⟨mb, Es, h⟩ := h
  have key : ∀ i o, w.heap[i]? = some o → (∀ cs fz, o ≠ Obj.cells cs e fz) → w'.heap[i]? = w.heap[i]? := fun i o hi hne => by
    refine hg.block i (Array.getElem?_eq_some_iff.1 hi).1 ?_
    intro e2
    rcases hrow.2 with ⟨rfl, _⟩ | ⟨g, cap, cur, rfl, _, hh, _⟩
    · cases e2
    · injection e2 with e2
      subst e2
      rw [hi] at hh
      injection hh with hh
      exact hne _ _ hh
  refine ⟨mb, Es, h.heap (fun i cs t fz hi h1 => key i _ hi ?_) (fun i es c hi => key i _ hi ?_)⟩
  · intro cs' fz' e2
    injection e2 with _ e2
    subst e2
    rcases h1 with rfl | rfl | rfl
    · exact ht.1 rfl
    · exact ht.2.1 rfl
    · exact ht.2.2 rfl
  · intro cs' fz' e2
    cases e2
theorem Blk.grownRow {w w' : World} {g : Nat} {cs : Array Value} {t e : TypeId} {v : Value} {xs : List Value} (h : Blk w g cs t) (hrow : Row1 w e v xs) (hne : e ≠ t) (hg : w.grownBy w' v.ownBlock) : Blk w' g cs t := by
  refine h.grown hg ?_
  intro e2
  rcases hrow.2 with ⟨rfl, _⟩ | ⟨g', cap, cur, rfl, _, hh, _⟩
  · cases e2
  · injection e2 with e2
    subst e2
    unfold Blk at h
    rw [h] at hh
    injection hh with hh
    injection hh with _ e3
    exact hne e3.symm
theorem Row1.onlyBlk {w w' : World} {g : Nat} {cs : Array Value} {t e : TypeId} {v : Value} {xs : List Value} (h : Row1 w e v xs) (hb : Blk w g cs t) (hne : e ≠ t) (ho : Only g w w') : Row1 w' e v xs := by
  refine h.kept fun k hk => ho.block k ?_
  rintro rfl
  rcases h.2 with ⟨rfl, _⟩ | ⟨g', cap, cur, rfl, _, hh, _⟩
  · cases hk
  · injection hk with hk
    subst hk
    unfold Blk at hb
    rw [hb] at hh
    injection hh with hh
    injection hh with _ e3
    exact hne e3.symm
namespace C
theorem all_few (s : List UInt8) : (all s).1.length ≤ s.length := by
  have key : ∀ n (s : List UInt8), s.length ≤ n → (all s).1.length ≤ s.length := by
    intro n
    induction n with
    | zero =>
      intro s h
      have hs : s = [] := List.eq_nil_of_length_eq_zero (by omega)
      subst hs
      rw [all_none opn_nil]; exact Nat.le_refl _
    | succ n ih =>
      intro s h
      by_cases h0 : (opn s).2.2 = 0
      · obtain ⟨h1, h2, _⟩ := opn_ok h0
        rw [all_some h0]
        have hl : (s.drop (opn s).2.1).length = s.length - (opn s).2.1 := List.length_drop
        have := ih (s.drop (opn s).2.1) (by omega)
        rw [List.length_cons]; omega
      · rw [all_none h0]; exact Nat.zero_le _
  exact key _ s (Nat.le_refl _)
end C
namespace Jr
theorem texts_few : ∀ l : List Sg, (texts l).length ≤ D.used (files l)
  | [] => Nat.le_refl _
  | x :: l => by
    have := texts_few l
    have := C.all_few x.b
    show ((C.all x.b).1 ++ texts l).length ≤ D.used (fl x :: files l)
    rw [D.used_cons, List.length_append]
    show _ ≤ x.b.length + _
    omega
theorem used_mem : ∀ {l : List Sg} {x : Sg}, x ∈ l → x.b.length ≤ D.used (files l)
  | y :: l, x, h => by
    show _ ≤ D.used (fl y :: files l)
    rw [D.used_cons]
    rcases List.mem_cons.1 h with e | e
    · subst e; show _ ≤ x.b.length + _; omega
    · have := used_mem e; omega
theorem used_take (l : List Sg) (k : Nat) : D.used (files (l.take k)) ≤ D.used (files l) := by
  conv => rhs; rw [← List.take_append_drop k l]
  unfold files
  rw [List.map_append]
  unfold D.used
  rw [List.map_append, List.sum_append_nat]
  omega
theorem take_snoc {l : List Sg} {k : Nat} {x : Sg} (h : l[k]? = some x) : l.take (k + 1) = l.take k ++ [x] := by rw [List.take_add_one, h]; rfl
end Jr
set_option maxRecDepth 100000 in
set_option maxHeartbeats 4000000 in
theorem jopen_any {B : Nat} {w : World} {p : Nat} {M : D.Dk} (h : DkAt B w p M) (hd : M.dead = false) (segs : List Jr.Sg) (hf : M.files = Jr.files segs) (hs : Jr.Up segs) (hu : D.used M.files ≤ 1000000000) :
    Calls Try.prog 56 #[.pointer (some ⟨p, 0, none⟩), .int .i64 0] w fun e w' => ∃ j v, e = .returned (.tuple #[.pointer (some ⟨j, 0, none⟩), v, .int .i64 0]) ∧ w.heap.size ≤ j ∧ JrAt w' j p (Jr.next segs) ∧ Row1 w' 9 v ((Jr.texts segs).map strV) ∧ (v.ownBlock = none ∨ ∃ k, w.heap.size ≤ k ∧ v.ownBlock = some k) ∧ Below w.heap.size w w' := by
  have da := dead_any h
  rw [hd] at da
  have DA := Lib.hid da
  have SG := Lib.hid (fun W (h : DkAt B W p M) => segments_any h hd segs hf hs)
  have hlm : (segs.map Jr.numV).length = segs.length := List.length_map _
  have hlen : segs.length ≤ 4096 := by obtain ⟨mb, Es, h'⟩ := h; have := h'.few; rw [hf, Jr.files_length] at this; exact this
  have k0 := h.at_ ((Below.refl _ _).alloc (Nat.le_refl _) (.cells #[.pointer (some ⟨p, 0, none⟩), .int .i64 0] 144))
  have j0 : JrAt (w.alloc (.cells #[.pointer (some ⟨p, 0, none⟩), .int .i64 0] 144)) w.heap.size p 0 := Blk.new w _ _
  have b0 := (Below.refl w.heap.size w).alloc (Nat.le_refl _) (.cells #[.pointer (some ⟨p, 0, none⟩), .int .i64 0] 144)
  have RD := Lib.hid (fun x (hx : x ∈ segs) W (h : DkAt B W p M) => read_to (s := x.b) (z := 0) h (Jr.name x.k) (by rw [Jr.name_length]; decide) (by rw [D.read_some hd (by rw [hf]; exact Jr.find_mem hs hx)]; rfl) (by rw [D.read_some hd (by rw [hf]; exact Jr.find_mem hs hx)]; rfl))
  rw [hf] at hu
  clear da h hd hf
  go_enter Try.func56, Try.ntmps56
  go_wp2_with (first | (go_at_call 44; (with_reducible refine DA.out.mono ?_); rintro e w ⟨rfl, rfl⟩) | (go_at_call 88; (with_reducible refine (SG.out _ k0).mono ?_); rintro e w2 ⟨nv, rfl, hrow, hb2⟩; have k2 := k0.at_ hb2; have j2 := j0.at_ hb2; have b2 := b0.trans (hb2.mono b0.size); obtain ⟨A, c, rfl, hc, -⟩ := hrow.reads; rw [hlm] at hrow ⊢))
  clear k0 j0 b0 hb2 SG DA
  go_loopw [8, 30] (fun v i wr => ∃ k : Nat, k ≤ segs.length ∧ i = .int .i64 (k : Int) ∧ Row1 wr 9 v ((Jr.texts (segs.take k)).map strV) ∧ (v.ownBlock = none ∨ ∃ k, w.heap.size ≤ k ∧ v.ownBlock = some k) ∧ Row1 wr 3 (.slice A segs.length c) (segs.map Jr.numV) ∧ JrAt wr w.heap.size p (Jr.next (segs.take k)) ∧ DkAt B wr p M ∧ Below w.heap.size w wr) (fun _ i _ => segs.length - (intOf i).toNat)
  case atStart => exact ⟨0, by omega, rfl, Row1.nil _ _, .inl rfl, hrow, j2, k2, b2⟩
  case round =>
    clear hrow j2 k2 b2
    obtain ⟨k, hk, rfl, hrow, hown, hsv, hj, hdk, hB⟩ := hrel
    have q0 : (0 : Int) ≤ (k : Int) := by omega
    by_cases hm : k < segs.length
    · have d1 : decide ((k : Int) < (segs.length : Int)) = true := decide_eq_true (by omega)
      have q1 : (k : Int) < (segs.length : Int) := by omega
      obtain ⟨x, hx⟩ : ∃ x, segs[k]? = some x := ⟨_, List.getElem?_eq_getElem hm⟩
      have hxm := List.mem_of_getElem? hx
      obtain ⟨A', c', heq, -, hcell⟩ := hsv.reads
      rw [hlm] at heq
      injection heq with e1 e2 e3
      subst e1
      obtain ⟨g, o, rfl, hg, hcl⟩ : ∃ g o, A = some ⟨g, o, none⟩ ∧ g < wr.heap.size ∧ ∀ j u, (segs.map Jr.numV)[j]? = some u → wr.cell? ⟨g, o + j, none⟩ = some u := by
        rcases hcell with e | e
        · exfalso; have h9 : segs.length = 0 := by rw [← hlm, e]; rfl
          omega
        · exact e
      have cT : wr.cell? ⟨g, o + k, none⟩ = some (.int .i64 (x.k : Int)) := hcl k _ (by rw [List.getElem?_map, hx]; rfl)
      have hxk : x.k < 1000000000 := hs.2 x hxm
      have NM := Lib.hid (fun W => name_any x.k (by omega) W)
      have RX := Lib.hid (fun W (h : DkAt B W p M) => RD.out x hxm W h)
      have hxb := Jr.used_mem hxm
      have AL := Lib.hid (fun W => all_any x.b (by omega) W)
      have d2 : decide ((x.k : Int) < 0) = false := decide_eq_false (by omega)
      have hw1 : IntKind.i64.wrap ((x.k : Int) + 1) = ((x.k + 1 : Nat) : Int) := by rw [IntWalk.i64_in _ (by omega)]; omega
      have hl1 : (Jr.texts (segs.take (k + 1))).length ≤ 1000000000 := Nat.le_trans (Jr.texts_few _) (Nat.le_trans (Jr.used_take _ _) hu)
      rw [Jr.take_snoc hx, Jr.texts_app, Jr.texts_one, List.length_append] at hl1
      have Htx : Hid ((Jr.texts (segs.take k)).map strV ++ ((C.all x.b).1).map strV = (Jr.texts (segs.take (k + 1))).map strV) := Lib.hid (by rw [Jr.take_snoc hx, Jr.texts_app, Jr.texts_one, List.map_append])
      have Hnx : Hid (Jr.next (segs.take (k + 1)) = x.k + 1) := Lib.hid (by rw [Jr.take_snoc hx, Jr.next_snoc])
      have hl2 : ((Jr.texts (segs.take k)).map strV).length + (((C.all x.b).1).map strV).length ≤ 1000000000 := by rw [List.length_map, List.length_map]; exact hl1
      clear hl1 hcell hcl e2 e3 hx RD hxm hs
      generalize (Jr.texts (segs.take k)).map strV = tx at *
      generalize Jr.next (segs.take k) = n0 at *
      generalize x.b = xb at *
      go_wp2_with (first | (go_at_call 61; (with_reducible refine (NM.out _).mono ?_); rintro e w3 ⟨rfl, hb3⟩) | (go_at_call 43; (with_reducible refine (RX.out _ (hdk.at_ hb3)).mono ?_); rintro e w4 ⟨rfl, rfl⟩) | (go_at_call 27; (with_reducible refine (AL.out _).mono ?_); rintro e w5 ⟨v5, rfl, hrow5, -, hb5⟩; have hb35 := hb3.trans (hb5.mono hb3.size); have hrowA := hrow.at_ hb35) | (at_builtin; refine wpList_append_rows rfl info_str (.tmp 52) (.tmp 53) 35 rfl Try.underlying35 rfl hrowA rfl hrow5 (str_one _) (by omega) ?_; intro v6 w6 hrow6 hg6 hr6; have hj6 : JrAt w6 w.heap.size p n0 := Blk.grownRow (hj.at_ hb35) hrowA (by decide) hg6; have jf := hj6.free 1; have jc := hj6.cellv (i := 1) rfl))
      have hdk6 := (hdk.at_ hb35).grown hrowA (by decide) hg6
      have hsv6 := (hsv.at_ hb35).grown hg6 (fun g h1 h2 => (Row1.ne_ hrowA (hsv.at_ hb35) (by decide)) g h2 h1)
      have hB6 := below_grown_own (hB.trans (hb35.mono hB.size)) (Nat.le_trans hB.size hb35.size) hg6 hown
      have hown6 := own_later hown (Nat.le_trans hB.size hb35.size) hr6
      have o7 := Only.setCell w6 w.heap.size 1 (.int .i64 ((x.k + 1 : Nat) : Int))
      rw [Htx.out] at hrow6
      go_roundw
      case rel => exact ⟨k + 1, by omega, by go_num, hrow6.onlyBlk hj6 (by decide) o7, hown6, hsv6.onlyBlk hj6 (by decide) o7, by rw [Hnx.out]; exact hj6.set_ 1 _, hdk6.only hj6 (by decide) o7, o7.below hB6 (Nat.le_refl _)⟩
      case measure => simp [intOf]; omega
    · obtain rfl : k = segs.length := by omega
      rw [List.take_length] at hrow hj
      go_wp2
      go_ret3
      exact ⟨_, _, rfl, Nat.le_refl _, hj, hrow, hown, hB⟩
end Go.Proofs.Ytknkbioalohofaa
