/- The walk of the disk's Spoil. -/
import Derived.Test.YtknkbioalohofaaDkF
namespace Go.Proofs.Ytknkbioalohofaa
open Go.RowKit Go.Maps Go.ChangeMaps Go.MapKept Go.WideMaps

/-- A file's block is written, and new blocks are made. -/
theorem DkE.setFileG {B : Nat} {w w' : World} {p mb : Nat} {M : D.Dk} {Es : List D.Ent} (h : DkE B w p mb M Es) {x : D.Ent} (hx : x ∈ Es) (ho : w.grownBy w' (some x.2)) {v : Value} {b' : List UInt8} {s' : Nat}
    (hb : Blk w' x.2 #[v, .int .i64 (s' : Int)] 131) (hbuf : Buf w' v b') (g : D.Fl → D.Fl) (hg : g x.1 = ⟨x.1.name, b', s'⟩) (hgn : ∀ y, (g y).name = y.name) (hs : s' ≤ b'.length) :
    DkE B w' p mb { M with files := D.upd D.Fl.name x.1.name g M.files } (D.upd D.kE x.1.name (fun y => (g y.1, y.2)) Es) ∧ DStp B w w' := by
  obtain ⟨hB, ⟨v0, hb0, hbuf0⟩, hs0, hn0⟩ := h.held x hx
  -- the world with the new blocks, the file's block as it was
  have key : ∀ i, i < w.heap.size → i ≠ x.2 → w'.heap[i]? = w.heap[i]? := fun i hi hne => ho.block i hi (fun e => hne (Option.some.inj e))
  obtain ⟨es, c, hm⟩ := h.map.isMap
  have hlt : ∀ {i : Nat} {o : Obj}, w.heap[i]? = some o → i < w.heap.size := fun hi => (Array.getElem?_eq_some_iff.1 hi).1
  have hd : DStp B w w' := ⟨⟨ho.os, ho.tape, ho.output, ho.size, fun i hi => key i (Nat.lt_of_lt_of_le hi (Nat.le_of_lt h.lt)) (by omega)⟩, fun i cs t fz hi h1 h2 => key i (hlt hi) (ne_of_type hi hb0 h2)⟩
  refine ⟨⟨(key p h.blk.lt (ne_of_type h.blk hb0 (by decide))).trans h.blk, ?_, ?_, ?_, ?_, ?_, h.baseP, h.baseM, ?_, h.room, h.fuse⟩, hd⟩
  · unfold MapE
    rw [D.datum_upd _ _ hgn, D.upd_length]
    exact h.map.heap (key mb (hlt hm) (ne_of_map hb0 hm).symm)
  · rw [D.upd_fst, h.eq]
  · intro y hy
    unfold D.upd at hy
    obtain ⟨z, hz, rfl⟩ := List.mem_map.1 hy
    obtain ⟨a1, a2, a3, a4⟩ := h.held z hz
    by_cases hn : (D.kE z == x.1.name) = true
    · obtain rfl := names_uniq h.names hz hx (by simpa [D.kE] using hn)
      rw [if_pos hn]
      refine ⟨a1, ⟨v, ?_, ?_⟩, ?_, ?_⟩
      · show Blk w' z.2 #[v, .int .i64 ((g z.1).sure : Int)] _
        rw [hg]; exact hb
      · show Buf w' v (g z.1).b
        rw [hg]; exact hbuf
      · show (g z.1).sure ≤ (g z.1).b.length
        rw [hg]; exact hs
      · show (g z.1).name.length ≤ 100
        rw [hgn]; exact a4
    · rw [if_neg hn]
      have hne : z.2 ≠ x.2 := fun e => hn (by rw [blks_uniq h.apart hz hx e]; simp [D.kE])
      refine ⟨a1, a2.heap fun i cs t fz hi ht => key i (hlt hi) ?_, a3, a4⟩
      rcases ht with ⟨_, rfl⟩ | rfl
      · exact hne
      · exact ne_of_type hi hb0 (by decide)
  · unfold D.upd
    rw [List.pairwise_map]
    refine h.apart.imp fun {a b} hab => ?_
    have e : ∀ y : D.Ent, (if (D.kE y == x.1.name) = true then (g y.1, y.2) else y).2 = y.2 := fun y => by split <;> rfl
    rw [e, e]; exact hab
  · unfold D.upd
    rw [List.pairwise_map]
    refine h.names.imp fun {a b} hab => ?_
    have e : ∀ y : D.Ent, (if (D.kE y == x.1.name) = true then (g y.1, y.2) else y).1.name = y.1.name := fun y => by split; exact hgn _; rfl
    rw [e, e]; exact hab
  · show (D.upd D.Fl.name x.1.name g M.files).length ≤ 4096
    rw [D.upd_length]; exact h.few
/-- A byte of a row of one's own. -/
theorem Buf.set {w : World} {g n cap : Nat} {xs : List UInt8} (h : Buf w (.slice (some ⟨g, 0, none⟩) n cap) xs) (k : Nat) (b : UInt8) : Buf (w.setCell ⟨g, k, none⟩ (.int .u8 (b.toNat : Int))) (.slice (some ⟨g, 0, none⟩) n cap) (xs.set k b) := by
  rcases h.2 with ⟨hv, _⟩ | ⟨g', cap', cur, hv, h1, h2, h3, h4, h5, h6⟩
  · cases hv
  · injection hv with e1 e2 e3
    injection e1 with e1
    injection e1 with e1
    subst e1 e2 e3
    refine ⟨by rw [List.length_map]; omega, .inr ⟨g, cap, cur.setIfInBounds k (byteV b), by rw [List.length_set], h1, ?_, by rw [List.length_set]; exact h3, h4, by rw [Array.size_setIfInBounds]; exact h5, ?_⟩⟩
    · exact Blk.set_ h2 k (byteV b)
    · rw [Nat.mul_one, List.length_set] at *
      rw [Array.toList_setIfInBounds, List.take_set, h6, List.map_set]
theorem Buf.byte {w : World} {g n cap : Nat} {xs : List UInt8} (h : Buf w (.slice (some ⟨g, 0, none⟩) n cap) xs) (k : Nat) (hk : k < xs.length) : w.cell? ⟨g, k, none⟩ = some (.int .u8 ((xs.getD k 0).toNat : Int)) := by
  have := h.cells rfl k (byteV (xs.getD k 0)) (by rw [List.getElem?_map, List.getElem?_eq_getElem hk]; simp [List.getD, List.getElem?_eq_getElem hk])
  rw [Addr.add_mid, Nat.zero_add] at this
  exact this
theorem Buf.freeB {w : World} {g n cap : Nat} {xs : List UInt8} (h : Buf w (.slice (some ⟨g, 0, none⟩) n cap) xs) (k : Nat) : w.frozen? ⟨g, k, none⟩ = false := by
  rcases h.2 with ⟨hv, _⟩ | ⟨g', cap', cur, hv, h1, h2, _⟩
  · cases hv
  · injection hv with e1 e2 e3
    injection e1 with e1
    injection e1 with e1
    subst e1 e2 e3
    exact Blk.free (cs := cur) h2 k
theorem own_ge {n g m c : Nat} (h : (Value.slice (some ⟨g, 0, none⟩) m c).ownBlock = none ∨ ∃ k, n ≤ k ∧ (Value.slice (some ⟨g, 0, none⟩) m c).ownBlock = some k) : n ≤ g := by
  rcases h with h | ⟨k, hk, h⟩
  · cases h
  · have h : some g = some k := h
    injection h with h; omega
theorem u8_xor (a b : UInt8) : bits .xor .u8 (a.toNat : Int) (b.toNat : Int) = ((a ^^^ b).toNat : Int) := by
  rw [u8_xor_nat _ _ (UInt8.toNat_lt a) (UInt8.toNat_lt b), UInt8.toNat_xor]
theorem Buf.big {w : World} {v : Value} {xs : List UInt8} (h : Buf w v xs) (h0 : 0 < xs.length) : ∃ g cap, v = .slice (some ⟨g, 0, none⟩) xs.length cap ∧ xs.length ≤ cap := by
  rcases h.2 with ⟨_, hv⟩ | ⟨g, cap, cur, hv, _, _, h3, _⟩
  · omega
  · exact ⟨g, cap, hv, h3⟩
set_option maxRecDepth 100000 in
set_option maxHeartbeats 4000000 in
theorem spoil_any {B : Nat} {w : World} {p : Nat} {M : D.Dk} (h : DkAt B w p M) (n : List UInt8) (t : Int) (y : UInt8) (hn : n.length ≤ 9223372036854775807) (ht : -9223372036854775808 ≤ t ∧ t < 9223372036854775808) (hu : D.used M.files ≤ 1099511627776) :
    Calls Try.prog 49 #[.pointer (some ⟨p, 0, none⟩), .string ⟨n.toArray⟩, .int .i64 t, .int .u8 (y.toNat : Int)] w fun e w' => e = .returned (.int .i64 ((D.spoil M n t y).2 : Int)) ∧ DkAt B w' p (D.spoil M n t y).1 ∧ DStp B w w' := by
  obtain ⟨mb, Es, h⟩ := h
  have c1 := h.blk.cellv (i := 1) rfl
  rcases fnd_ent h.eq n with ⟨h1, h2⟩ | ⟨x, h1, h2⟩
  · have hR : D.spoil M n t y = (M, 7) := by unfold D.spoil; rw [h2]
    have hlk := h.map.look_none hn h1
    rw [hR]
    go_enter Try.func49, Try.ntmps49
    go_wp2
    go_ret
    exact ⟨rfl, ⟨mb, Es, h⟩, DStp.refl _ _⟩
  · have hlk := h.map.look_some hn h1
    have hx := (D.fnd_mem _ h1).1
    have hxn : x.1.name = n := (D.fnd_mem _ h1).2
    have hxl : x.1.b.length ≤ D.used M.files := D.used_mem (D.fnd_mem _ h2).1
    obtain ⟨hB, ⟨v0, hb0, hbuf0⟩, hsu, -⟩ := h.held x hx
    have e0 := hb0.cellv (i := 0) rfl
    by_cases hout : t < 0 ∨ (x.1.b.length : Int) ≤ t
    · have hR : D.spoil M n t y = (M, 1) := by unfold D.spoil; rw [h2]; exact if_pos hout
      rw [hR]
      obtain ⟨A0, cp0, rfl⟩ := hbuf0.shape
      by_cases h0 : t < 0
      · have d0 : decide (t < 0) = true := decide_eq_true h0
        go_enter Try.func49, Try.ntmps49
        go_wp2
        go_ret
        exact ⟨rfl, ⟨mb, Es, h⟩, DStp.refl _ _⟩
      · have d0 : decide (t < 0) = false := decide_eq_false h0
        have d1 : decide ((x.1.b.length : Int) ≤ t) = true := decide_eq_true (by omega)
        go_enter Try.func49, Try.ntmps49
        go_wp2
        go_ret
        exact ⟨rfl, ⟨mb, Es, h⟩, DStp.refl _ _⟩
    · obtain ⟨k, rfl⟩ : ∃ k : Nat, t = (k : Int) := ⟨t.toNat, by omega⟩
      have hk : k < x.1.b.length := by omega
      have hR : D.spoil M n (k : Int) y = ({ M with files := D.upd D.Fl.name n (fun f => { f with b := f.b.set k (f.b.getD k 0 ^^^ y) }) M.files }, 0) := by
        unfold D.spoil; rw [h2]; show (if _ then _ else _) = _; rw [if_neg hout, Int.toNat_natCast]
      rw [hR]
      have CL := Lib.hid (clone_buf hbuf0 (by omega))
      obtain ⟨A0, cp0, rfl⟩ := hbuf0.shape
      have d0 : decide ((k : Int) < 0) = false := decide_eq_false (by omega)
      have d1 : decide ((x.1.b.length : Int) ≤ (k : Int)) = false := decide_eq_false (by omega)
      have d2 : decide (x.1.b.length ≤ k) = false := decide_eq_false (by omega)
      clear hout hR hbuf0
      go_enter Try.func49, Try.ntmps49
      go_wp2_with (go_at_call 78; (with_reducible refine CL.out.mono ?_); rintro e w4 ⟨v4, rfl, hbuf4, ho4, hb4⟩; have hb4x := hb0.at_ hb4; have e4 := hb4x.cellv (i := 0) rfl; have f4 := hb4x.free 0; obtain ⟨g4, cp4, rfl, hcp⟩ := hbuf4.big (by omega); have hg4 : w.heap.size ≤ g4 := own_ge ho4; have hne4 : x.2 ≠ g4 := (by have := hb0.lt; omega); have o5 := Only.setCell w4 x.2 0 (.slice (some ⟨g4, 0, none⟩) x.1.b.length cp4); have b5 := hb4x.set_ 0 (.slice (some ⟨g4, 0, none⟩) x.1.b.length cp4); have u5 : Buf (w4.setCell ⟨x.2, 0, none⟩ (.slice (some ⟨g4, 0, none⟩) x.1.b.length cp4)) _ x.1.b := hbuf4.kept fun g hg => o5.block g (by have hg : some g4 = some g := hg; injection hg with hg; subst hg; exact hne4.symm); have c5 := u5.byte k hk; have f5 := u5.freeB k; have u6 := u5.set k (x.1.b.getD k 0 ^^^ y); have o6 := Only.setCell (w4.setCell ⟨x.2, 0, none⟩ (.slice (some ⟨g4, 0, none⟩) x.1.b.length cp4)) g4 k (.int .u8 ((x.1.b.getD k 0 ^^^ y).toNat : Int)); have key := h.setFileG (w' := (w4.setCell ⟨x.2, 0, none⟩ (.slice (some ⟨g4, 0, none⟩) x.1.b.length cp4)).setCell ⟨g4, k, none⟩ (.int .u8 ((x.1.b.getD k 0 ^^^ y).toNat : Int))) hx ⟨o6.os.trans (o5.os.trans hb4.os), o6.tape.trans (o5.tape.trans hb4.tape), o6.output.trans (o5.output.trans hb4.output), by rw [o6.size, o5.size]; exact hb4.size, fun i hi hne => (o6.block i (by omega)).trans ((o5.block i (fun e => hne (by rw [e]))).trans (hb4.block i hi))⟩ (b5.only o6 hne4) u6 (fun f => { f with b := f.b.set k (f.b.getD k 0 ^^^ y) }) rfl (fun _ => rfl) (by rw [List.length_set]; exact hsu); have hxor : bits .xor .u8 ((x.1.b.getD k 0).toNat : Int) (y.toNat : Int) = ((x.1.b.getD k 0 ^^^ y).toNat : Int) := u8_xor _ _; clear hbuf4 u5 u6 o5 o6 b5; generalize x.1.b.getD k 0 ^^^ y = z at *; generalize x.1.b.getD k 0 = q at *)
      go_ret
      rw [hxn] at key
      exact ⟨rfl, ⟨mb, _, key.1⟩, key.2⟩
end Go.Proofs.Ytknkbioalohofaa
