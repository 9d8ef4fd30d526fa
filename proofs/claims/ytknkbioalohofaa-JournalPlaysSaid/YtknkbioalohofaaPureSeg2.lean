/- What a text more makes of a journal, in plain Lean. -/
import Derived.Test.YtknkbioalohofaaJrD
import Derived.Test.YtknkbioalohofaaPureDisk3
import Derived.Test.YtknkbioalohofaaWRAll
namespace Go.Proofs.Ytknkbioalohofaa
namespace Jr
/-- A disk that is well, with such segments. -/
def mk (room : Nat) (l : List Sg) : D.Dk := ⟨room, -1, false, files l⟩
def Whole (b : List UInt8) : Prop := ∃ ts, b = C.frames ts ∧ ∀ t ∈ ts, t.length ≤ 65536
def Good (l : List Sg) (n : Nat) : Prop := Up l ∧ (∀ y ∈ l, y.k ≤ n) ∧ ∀ y ∈ l, Whole y.b
theorem Whole.nil : Whole [] := ⟨[], rfl, by simp⟩
theorem all_whole {ts : List (List UInt8)} (h : ∀ t ∈ ts, t.length ≤ 65536) : C.all (C.frames ts) = (ts, (C.frames ts).length) := by
  have := C.all_frames ts [] h
  rw [List.append_nil] at this
  rw [this, show C.all [] = ([], 0) from C.all_none C.opn_nil]
  simp
theorem Whole.more {b s : List UInt8} (h : Whole b) (hs : s.length ≤ 65536) : Whole (b ++ C.wrap s) ∧ (C.all (b ++ C.wrap s)).1 = (C.all b).1 ++ [s] := by
  obtain ⟨ts, rfl, hts⟩ := h
  have e : C.frames ts ++ C.wrap s = C.frames (ts ++ [s]) := by rw [C.frames_append]; simp [C.frames]
  have h2 : ∀ t ∈ ts ++ [s], t.length ≤ 65536 := by
    intro t ht
    rcases List.mem_append.1 ht with h | h
    · exact hts t h
    · rw [List.mem_singleton.1 h]; exact hs
  rw [e]
  exact ⟨⟨_, rfl, h2⟩, by rw [all_whole h2, all_whole hts]⟩
theorem Good.nil (n : Nat) : Good [] n := ⟨Up.nil, by simp, by simp⟩
theorem Good.later {l : List Sg} {n m : Nat} (h : Good l n) (hm : n ≤ m) : Good l m := ⟨h.1, fun y hy => Nat.le_trans (h.2.1 y hy) hm, h.2.2⟩
theorem used_app (l m : List Sg) : D.used (files (l ++ m)) = D.used (files l) + D.used (files m) := by
  unfold files
  rw [List.map_append]
  unfold D.used
  rw [List.map_append, List.sum_append_nat]
theorem add_parts {M : D.Dk} {n : Nat} {s : List UInt8} {M1 : D.Dk} {r : D.Dk × Nat} (h1 : D.append M (name n) (C.wrap s) = (M1, 0)) (h2 : D.sync M1 (name n) = r) : add M n s = r := by
  unfold add; rw [h1]; exact h2
theorem add_full {room : Nat} {l : List Sg} {n : Nat} {s : List UInt8} (h : ¬ s.length + 8 + D.used (files l) ≤ room) : add (mk room l) n s = (mk room l, 9) := by
  have h1 : D.append (mk room l) (name n) (C.wrap s) = (mk room l, 9) := D.append_full rfl (good_name n) (by show (room : Int) - (D.used (files l) : Int) < _; rw [C.wrap_length]; omega)
  unfold add; rw [h1]; rfl
theorem put_ok {l : List Sg} {n : Nat} (h : Good l n) (hn : n < 1000000000) (s : List UInt8) (hs : s.length ≤ 65536) : ∃ l', Good l' n ∧ texts l' = texts l ++ [s] ∧ D.used (files l') = D.used (files l) + (s.length + 8) ∧ l'.length ≤ l.length + 1 ∧ next l' = n + 1 ∧
    (∀ m, m < n → ∃ r, l' = (l.filter fun y => decide (y.k ≤ m)) ++ r ∧ ∀ y ∈ r, m < y.k) ∧ (l = [] → l' = [⟨n, C.wrap s, (C.wrap s).length⟩]) ∧
    ∀ room : Nat, s.length + 8 + D.used (files l) ≤ room → l.length < 4096 → add (mk room l) n s = (mk room l', 0) := by
  obtain ⟨hup, hle, hwh⟩ := h
  have hwl := C.wrap_length s
  have hw0 := Whole.nil.more hs
  rw [List.nil_append, show (C.all []).1 = [] by rw [C.all_none C.opn_nil], List.nil_append] at hw0
  by_cases hnew : ∀ y ∈ l, y.k < n
  · refine ⟨l ++ [⟨n, C.wrap s, (C.wrap s).length⟩], ⟨hup.snoc hn hnew, ?_, ?_⟩, ?_, ?_, by simp, next_snoc _ _, ?_, ?_, ?_⟩
    · intro y hy
      rcases List.mem_append.1 hy with e | e
      · exact hle y e
      · rw [List.mem_singleton.1 e]; exact Nat.le_refl _
    · intro y hy
      rcases List.mem_append.1 hy with e | e
      · exact hwh y e
      · rw [List.mem_singleton.1 e]; exact hw0.1
    · rw [texts_app, texts_one]
      show _ ++ (C.all (C.wrap s)).1 = _
      rw [hw0.2]
    · rw [used_app]
      show _ + (C.wrap s).length = _
      omega
    · intro m hm
      refine ⟨(l.filter fun y => !decide (y.k ≤ m)) ++ [⟨n, C.wrap s, (C.wrap s).length⟩], ?_, ?_⟩
      · rw [← List.append_assoc]
        congr 1
        have : ∀ l : List Sg, Up l → l = (l.filter fun y => decide (y.k ≤ m)) ++ l.filter fun y => !decide (y.k ≤ m) := by
          intro l
          induction l with
          | nil => intro _; rfl
          | cons y l ih =>
            intro hu
            have hl : Up l := ⟨(List.pairwise_cons.1 hu.1).2, fun z hz => hu.2 z (List.mem_cons_of_mem _ hz)⟩
            by_cases e : y.k ≤ m
            · rw [List.filter_cons_of_pos (by simpa using e), List.filter_cons_of_neg (by simpa using e), List.cons_append, ← ih hl]
            · have h1 : (l.filter fun y => decide (y.k ≤ m)) = [] := by
                rw [List.filter_eq_nil_iff]
                intro z hz
                have := (List.pairwise_cons.1 hu.1).1 z hz
                simp; omega
              have h2 : (l.filter fun y => !decide (y.k ≤ m)) = l := by
                rw [List.filter_eq_self]
                intro z hz
                have := (List.pairwise_cons.1 hu.1).1 z hz
                simp; omega
              rw [List.filter_cons_of_neg (by simpa using e), List.filter_cons_of_pos (by simpa using e), h1, h2]; rfl
        exact this l hup
      · intro y hy
        rcases List.mem_append.1 hy with e | e
        · have := (List.mem_filter.1 e).2
          simp at this; exact this
        · rw [List.mem_singleton.1 e]; exact hm
    · rintro rfl; rfl
    · intro room hr hl
      have hfn : D.fnd D.Fl.name (name n) (files l) = none := find_none hup hn fun y hy e => by have := hnew y hy; omega
      refine add_parts (M1 := ⟨room, -1, false, D.ins D.Fl.name (fl ⟨n, C.wrap s, 0⟩) (files l)⟩) ?_ ?_
      · rw [D.append_new (M := mk room l) rfl (good_name n) hfn (by show _ ≤ (room : Int) - (D.used (files l) : Int); omega) (by rw [show (mk room l).files = files l from rfl, files_length]; exact hl), D.deed_calm (by show (-1 : Int) < 0; omega)]
        rfl
      · rw [ins_last hup (x := ⟨n, C.wrap s, 0⟩) hn hnew]
        have hu2 : Up (l ++ [⟨n, C.wrap s, 0⟩]) := hup.snoc hn hnew
        have hf2 := find_mem hu2 (x := ⟨n, C.wrap s, 0⟩) (by simp)
        have hdc := D.deed_calm (M := (⟨room, -1, false, files (l ++ [(⟨n, C.wrap s, 0⟩ : Sg)])⟩ : D.Dk)) (by show (-1 : Int) < 0; omega)
        rw [D.sync_ok (M := (⟨room, -1, false, files (l ++ [(⟨n, C.wrap s, 0⟩ : Sg)])⟩ : D.Dk)) (n := name n) rfl hf2 (by rw [hdc]), hdc]
        show ((⟨room, -1, false, D.upd D.Fl.name (name n) _ (files (l ++ [⟨n, C.wrap s, 0⟩]))⟩ : D.Dk), 0) = _
        rw [upd_files hu2 hn _ (fun y => { y with s := y.b.length }) (fun _ => rfl), List.map_append]
        unfold mk
        congr 4
        · conv => rhs; rw [← List.map_id l]
          apply List.map_congr_left
          intro y hy
          have := hnew y hy
          show (if y.k = n then _ else y) = y
          rw [if_neg (by omega)]
        · simp
  · have : ∃ i x, l = i ++ [x] ∧ x.k = n := by
      obtain ⟨y, hy⟩ := Classical.not_forall.1 hnew
      obtain ⟨hy, hyn⟩ := Classical.not_imp.1 hy
      rcases List.eq_nil_or_concat l with e | ⟨i, x, e⟩
      · rw [e] at hy; cases hy
      · rw [List.concat_eq_append] at e
        refine ⟨i, x, e, ?_⟩
        have hx := hle x (by rw [e]; simp)
        rw [e] at hy
        rcases List.mem_append.1 hy with h | h
        · have := hup.1
          rw [e, List.pairwise_append] at this
          have := this.2.2 y h x (by simp)
          omega
        · have := hle y (by rw [e]; exact List.mem_append.2 (.inr h))
          rw [List.mem_singleton.1 h] at hyn this; omega
    obtain ⟨i, x, rfl, hx⟩ := this
    have hlt : ∀ y ∈ i, y.k < n := by
      intro y hy
      have := hup.1
      rw [List.pairwise_append] at this
      have := this.2.2 y hy x (by simp)
      omega
    have hwx := (hwh x (by simp)).more hs
    have hui : Up i := ⟨by have := hup.1; rw [List.pairwise_append] at this; exact this.1, fun y hy => hup.2 y (List.mem_append.2 (.inl hy))⟩
    refine ⟨i ++ [⟨n, x.b ++ C.wrap s, (x.b ++ C.wrap s).length⟩], ⟨hui.snoc hn hlt, ?_, ?_⟩, ?_, ?_, by simp, next_snoc _ _, ?_, ?_, ?_⟩
    · intro y hy
      rcases List.mem_append.1 hy with e | e
      · exact hle y (List.mem_append.2 (.inl e))
      · rw [List.mem_singleton.1 e]; exact Nat.le_refl _
    · intro y hy
      rcases List.mem_append.1 hy with e | e
      · exact hwh y (List.mem_append.2 (.inl e))
      · rw [List.mem_singleton.1 e]; exact hwx.1
    · rw [texts_app, texts_app, texts_one, texts_one]
      show _ ++ (C.all (x.b ++ C.wrap s)).1 = _
      rw [hwx.2, List.append_assoc]
    · rw [used_app, used_app]
      show _ + (x.b ++ C.wrap s).length = _ + x.b.length + _
      rw [List.length_append]; omega
    · intro m hm
      have hsp : ∀ l : List Sg, Up l → l = (l.filter fun y => decide (y.k ≤ m)) ++ l.filter fun y => !decide (y.k ≤ m) := by
        intro l
        induction l with
        | nil => intro _; rfl
        | cons y l ih =>
          intro hu
          have hl : Up l := ⟨(List.pairwise_cons.1 hu.1).2, fun z hz => hu.2 z (List.mem_cons_of_mem _ hz)⟩
          by_cases e : y.k ≤ m
          · rw [List.filter_cons_of_pos (by simpa using e), List.filter_cons_of_neg (by simpa using e), List.cons_append, ← ih hl]
          · have h1 : (l.filter fun y => decide (y.k ≤ m)) = [] := by
              rw [List.filter_eq_nil_iff]
              intro z hz
              have := (List.pairwise_cons.1 hu.1).1 z hz
              simp; omega
            have h2 : (l.filter fun y => !decide (y.k ≤ m)) = l := by
              rw [List.filter_eq_self]
              intro z hz
              have := (List.pairwise_cons.1 hu.1).1 z hz
              simp; omega
            rw [List.filter_cons_of_neg (by simpa using e), List.filter_cons_of_pos (by simpa using e), h1, h2]; rfl
      refine ⟨(i.filter fun y => !decide (y.k ≤ m)) ++ [⟨n, x.b ++ C.wrap s, (x.b ++ C.wrap s).length⟩], ?_, ?_⟩
      · rw [List.filter_append, List.filter_cons_of_neg (by simp; omega), List.filter_nil, List.append_nil, ← List.append_assoc, ← hsp i hui]
      · intro y hy
        rcases List.mem_append.1 hy with e | e
        · have := (List.mem_filter.1 e).2
          simp at this; exact this
        · rw [List.mem_singleton.1 e]; exact hm
    · intro e
      have := congrArg List.length e
      simp at this
    · intro room hr hl
      have hf2 := find_mem hup (x := x) (by simp)
      rw [hx] at hf2
      have hmapL : ∀ (g : Sg → Sg), ((i ++ [x]).map fun y => if y.k = n then g y else y) = i ++ [g x] := by
        intro g
        rw [List.map_append]
        congr 1
        · conv => rhs; rw [← List.map_id i]
          apply List.map_congr_left
          intro y hy
          have := hlt y hy
          show (if y.k = n then _ else y) = y
          rw [if_neg (by omega)]
        · simp [hx]
      have hu1 : D.upd D.Fl.name (name n) (fun f => { f with b := f.b ++ C.wrap s }) (files (i ++ [x])) = files (i ++ [⟨n, x.b ++ C.wrap s, x.s⟩]) := by
        rw [upd_files hup hn _ (fun y => { y with b := y.b ++ C.wrap s }) (fun _ => rfl), hmapL, ← hx]
      have hup2 : Up (i ++ [⟨n, x.b ++ C.wrap s, x.s⟩]) := hui.snoc hn hlt
      have hf3 := find_mem hup2 (x := ⟨n, x.b ++ C.wrap s, x.s⟩) (by simp)
      refine add_parts (M1 := mk room (i ++ [⟨n, x.b ++ C.wrap s, x.s⟩])) ?_ ?_
      · rw [D.append_old (M := mk room (i ++ [x])) rfl (good_name n) hf2 (by show _ ≤ (room : Int) - (D.used (files (i ++ [x])) : Int); omega), D.deed_calm (by show (-1 : Int) < 0; omega)]
        show ((⟨room, -1, false, D.upd D.Fl.name (name n) _ (files (i ++ [x]))⟩ : D.Dk), 0) = _
        rw [hu1]; rfl
      · have hdc := D.deed_calm (M := mk room (i ++ [(⟨n, x.b ++ C.wrap s, x.s⟩ : Sg)])) (by show (-1 : Int) < 0; omega)
        rw [D.sync_ok (M := mk room (i ++ [(⟨n, x.b ++ C.wrap s, x.s⟩ : Sg)])) (n := name n) rfl hf3 (by rw [hdc]), hdc]
        show ((⟨room, -1, false, D.upd D.Fl.name (name n) _ (files (i ++ [⟨n, x.b ++ C.wrap s, x.s⟩]))⟩ : D.Dk), 0) = _
        rw [upd_files hup2 hn _ (fun y => { y with s := y.b.length }) (fun _ => rfl), List.map_append]
        unfold mk
        congr 4
        · conv => rhs; rw [← List.map_id i]
          apply List.map_congr_left
          intro y hy
          have := hlt y hy
          show (if y.k = n then _ else y) = y
          rw [if_neg (by omega)]
        · simp
end Jr
end Go.Proofs.Ytknkbioalohofaa
