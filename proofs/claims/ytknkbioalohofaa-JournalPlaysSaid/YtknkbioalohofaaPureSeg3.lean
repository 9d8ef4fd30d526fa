/- What a text more makes of a journal, exactly; a byte that is another one. In plain Lean. -/
import Derived.Test.YtknkbioalohofaaPureSeg2
namespace Go.Proofs.Ytknkbioalohofaa
namespace Jr
/-- The segment of a number with whole frames, if there are any. -/
def seg (n : Nat) (G : List (List UInt8)) : List Sg := if G = [] then [] else [⟨n, C.frames G, (C.frames G).length⟩]
theorem seg_nil (n : Nat) : seg n [] = [] := rfl
theorem seg_cons (n : Nat) {G : List (List UInt8)} (h : G ≠ []) : seg n G = [⟨n, C.frames G, (C.frames G).length⟩] := if_neg h
theorem frames_snoc (G : List (List UInt8)) (s : List UInt8) : C.frames (G ++ [s]) = C.frames G ++ C.wrap s := by rw [C.frames_append]; simp [C.frames]
theorem add_new {room : Nat} {l : List Sg} {n : Nat} {s : List UInt8} (hup : Up l) (hn : n < 1000000000) (hnew : ∀ y ∈ l, y.k < n) (hr : s.length + 8 + D.used (files l) ≤ room) (hl : l.length < 4096) :
    add (mk room l) n s = (mk room (l ++ [⟨n, C.wrap s, (C.wrap s).length⟩]), 0) := by
  have hwl := C.wrap_length s
  have hfn : D.fnd D.Fl.name (name n) (files l) = none := find_none hup hn fun y hy e => by have := hnew y hy; omega
  refine add_parts (M1 := ⟨room, -1, false, D.ins D.Fl.name (fl ⟨n, C.wrap s, 0⟩) (files l)⟩) ?_ ?_
  · rw [D.append_new (M := mk room l) rfl (good_name n) hfn (by show _ ≤ (room : Int) - (D.used (files l) : Int); omega) (by rw [show (mk room l).files = files l from rfl, files_length]; exact hl), D.deed_calm (by show (-1 : Int) < 0; omega)]
    rfl
  · rw [ins_last hup (x := ⟨n, C.wrap s, 0⟩) hn hnew]
    have hu2 : Up (l ++ [⟨n, C.wrap s, 0⟩]) := hup.snoc hn hnew
    have hf2 := find_mem hu2 (x := ⟨n, C.wrap s, 0⟩) (by simp)
    have hdc := D.deed_calm (M := (⟨room, -1, false, files (l ++ [(⟨n, C.wrap s, 0⟩ : Sg)])⟩ : D.Dk)) (by show (-1 : Int) < 0; omega)
    rw [D.sync_ok (M := (⟨room, -1, false, files (l ++ [(⟨n, C.wrap s, 0⟩ : Sg)])⟩ : D.Dk)) (n := name n) rfl hf2 (by rw [hdc]), hdc]
    show ((⟨room, -1, false, D.upd D.Fl.name (name n) _ (files (l ++ [⟨n, C.wrap s, 0⟩]))⟩ : D.Dk), 0) = _
    rw [upd_files hu2 hn _ (fun y => { y with s := y.b.length }) (fun _ => rfl), List.map_append]
    unfold mk
    congr 4
    · conv => rhs; rw [← List.map_id l]
      apply List.map_congr_left
      intro y hy
      have := hnew y hy
      show (if y.k = n then _ else y) = y
      rw [if_neg (by omega)]
    · simp
theorem map_last {i : List Sg} {x : Sg} {n : Nat} (hx : x.k = n) (hlt : ∀ y ∈ i, y.k < n) (g : Sg → Sg) : ((i ++ [x]).map fun y => if y.k = n then g y else y) = i ++ [g x] := by
  rw [List.map_append]
  congr 1
  · conv => rhs; rw [← List.map_id i]
    apply List.map_congr_left
    intro y hy
    have := hlt y hy
    show (if y.k = n then _ else y) = y
    rw [if_neg (by omega)]
  · simp [hx]
theorem add_old {room : Nat} {i : List Sg} {x : Sg} {n : Nat} {s : List UInt8} (hup : Up (i ++ [x])) (hn : n < 1000000000) (hx : x.k = n) (hlt : ∀ y ∈ i, y.k < n) (hr : s.length + 8 + D.used (files (i ++ [x])) ≤ room) :
    add (mk room (i ++ [x])) n s = (mk room (i ++ [⟨n, x.b ++ C.wrap s, (x.b ++ C.wrap s).length⟩]), 0) := by
  have hwl := C.wrap_length s
  have hui : Up i := ⟨by have := hup.1; rw [List.pairwise_append] at this; exact this.1, fun y hy => hup.2 y (List.mem_append.2 (.inl hy))⟩
  have hf2 := find_mem hup (x := x) (by simp)
  rw [hx] at hf2
  have hu1 : D.upd D.Fl.name (name n) (fun f => { f with b := f.b ++ C.wrap s }) (files (i ++ [x])) = files (i ++ [⟨n, x.b ++ C.wrap s, x.s⟩]) := by
    rw [upd_files hup hn _ (fun y => { y with b := y.b ++ C.wrap s }) (fun _ => rfl), map_last hx hlt, ← hx]
  have hup2 : Up (i ++ [⟨n, x.b ++ C.wrap s, x.s⟩]) := hui.snoc hn hlt
  have hf3 := find_mem hup2 (x := ⟨n, x.b ++ C.wrap s, x.s⟩) (by simp)
  refine add_parts (M1 := mk room (i ++ [⟨n, x.b ++ C.wrap s, x.s⟩])) ?_ ?_
  · rw [D.append_old (M := mk room (i ++ [x])) rfl (good_name n) hf2 (by show _ ≤ (room : Int) - (D.used (files (i ++ [x])) : Int); omega), D.deed_calm (by show (-1 : Int) < 0; omega)]
    show ((⟨room, -1, false, D.upd D.Fl.name (name n) _ (files (i ++ [x]))⟩ : D.Dk), 0) = _
    rw [hu1]; rfl
  · have hdc := D.deed_calm (M := mk room (i ++ [(⟨n, x.b ++ C.wrap s, x.s⟩ : Sg)])) (by show (-1 : Int) < 0; omega)
    rw [D.sync_ok (M := mk room (i ++ [(⟨n, x.b ++ C.wrap s, x.s⟩ : Sg)])) (n := name n) rfl hf3 (by rw [hdc]), hdc]
    show ((⟨room, -1, false, D.upd D.Fl.name (name n) _ (files (i ++ [⟨n, x.b ++ C.wrap s, x.s⟩]))⟩ : D.Dk), 0) = _
    rw [upd_files hup2 hn _ (fun y => { y with s := y.b.length }) (fun _ => rfl), map_last (x := ⟨n, x.b ++ C.wrap s, x.s⟩) rfl hlt]
    rfl
theorem seg_k {n : Nat} {G : List (List UInt8)} : ∀ y ∈ seg n G, y.k = n := by
  intro y hy
  unfold seg at hy
  split at hy
  · cases hy
  · rw [List.mem_singleton.1 hy]
theorem Up.seg {l : List Sg} {n : Nat} {G : List (List UInt8)} (h : Up l) (hn : n < 1000000000) (hlt : ∀ y ∈ l, y.k < n) : Up (l ++ Jr.seg n G) := by
  unfold Jr.seg
  split
  · rw [List.append_nil]; exact h
  · exact h.snoc hn hlt
theorem used_seg (l : List Sg) (n : Nat) (G : List (List UInt8)) : D.used (files (l ++ seg n G)) = D.used (files l) + (C.frames G).length := by
  rw [used_app]
  congr 1
  unfold seg
  split
  · next h => rw [h]; rfl
  · show (C.frames G).length + 0 = _; omega
theorem seg_len (n : Nat) (G : List (List UInt8)) : (seg n G).length ≤ 1 := by unfold seg; split <;> simp
/-- A text more in the last segment. -/
theorem add_seg {room : Nat} {l : List Sg} {n : Nat} {G : List (List UInt8)} {s : List UInt8} (hup : Up l) (hn : n < 1000000000) (hlt : ∀ y ∈ l, y.k < n) (hr : s.length + 8 + (D.used (files l) + (C.frames G).length) ≤ room) (hl : l.length < 4096) :
    add (mk room (l ++ seg n G)) n s = (mk room (l ++ seg n (G ++ [s])), 0) := by
  have he : seg n (G ++ [s]) = [⟨n, C.frames G ++ C.wrap s, (C.frames G ++ C.wrap s).length⟩] := by rw [seg_cons n (by simp), frames_snoc]
  rw [he]
  rw [← used_seg l n G] at hr
  by_cases hG : G = []
  · subst hG
    rw [seg_nil, List.append_nil] at hr ⊢
    exact add_new hup hn hlt hr hl
  · have hu : Up (l ++ seg n G) := hup.seg hn hlt
    rw [seg_cons n hG] at hr hu ⊢
    exact add_old hu hn rfl hlt hr
theorem texts_seg {n : Nat} {G : List (List UInt8)} (h : ∀ t ∈ G, t.length ≤ 65536) : texts (seg n G) = G := by
  unfold seg
  split
  · next e => rw [e]; rfl
  · rw [texts_one]
    show (C.all (C.frames G)).1 = G
    rw [all_whole h]
/-- Spoilt at a byte behind the first frames, the first texts are found. -/
theorem all_set {F : List (List UInt8)} (h : ∀ t ∈ F, t.length ≤ 65536) {k at_ : Nat} (hk : C.fl F k ≤ at_) (y : UInt8) : ∃ R, (C.all ((C.frames F).set at_ y)).1 = F.take k ++ R := by
  have e : C.frames F = C.frames (F.take k) ++ C.frames (F.drop k) := by rw [← C.frames_append, List.take_append_drop]
  unfold C.fl at hk
  rw [e, List.set_append_right _ _ hk, C.all_frames _ _ fun t ht => h t (List.mem_of_mem_take ht)]
  exact ⟨_, rfl⟩
theorem spoil_seg {room : Nat} {r : List Sg} {x : Sg} {at_ : Int} {y : UInt8} (hup : Up (x :: r)) : D.spoil (mk room (x :: r)) (name x.k) at_ y = if at_ < 0 ∨ (x.b.length : Int) ≤ at_ then (mk room (x :: r), 1) else (mk room (⟨x.k, x.b.set at_.toNat (x.b.getD at_.toNat 0 ^^^ y), x.s⟩ :: r), 0) := by
  have hf := find_mem hup (x := x) (List.mem_cons_self ..)
  unfold D.spoil
  rw [show (mk room (x :: r)).files = files (x :: r) from rfl, hf]
  show (if at_ < 0 ∨ (x.b.length : Int) ≤ at_ then _ else _) = _
  split
  · rfl
  · show ((⟨room, -1, false, D.upd D.Fl.name (name x.k) _ (files (x :: r))⟩ : D.Dk), 0) = _
    rw [upd_files hup (hup.2 x (List.mem_cons_self ..)) _ (fun z => { z with b := z.b.set at_.toNat (z.b.getD at_.toNat 0 ^^^ y) }) (fun _ => rfl), List.map_cons, if_pos rfl]
    have : (r.map fun z => if z.k = x.k then ({ z with b := z.b.set at_.toNat (z.b.getD at_.toNat 0 ^^^ y) } : Sg) else z) = r := by
      conv => rhs; rw [← List.map_id r]
      apply List.map_congr_left
      intro z hz
      have := (List.pairwise_cons.1 hup.1).1 z hz
      show (if z.k = x.k then _ else z) = z
      rw [if_neg (by omega)]
    rw [this]
    rfl
end Jr
end Go.Proofs.Ytknkbioalohofaa
