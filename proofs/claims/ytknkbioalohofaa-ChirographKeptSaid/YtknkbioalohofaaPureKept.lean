/- Plain laws: files that are kept, what was appended, what was made sure; what a crash leaves of them. No program in sight. -/
import Derived.Test.YtknkbioalohofaaPureDisk3
import Derived.Test.YtknkbioalohofaaPureCuts
namespace Go.Proofs.Ytknkbioalohofaa
namespace K
structure Kp where
  id : List UInt8
  texts : List (List UInt8)
  sure : Nat
def fl (k : Kp) : D.Fl := ⟨k.id, C.frames k.texts, C.fl k.texts k.sure⟩
structure J (i : Nat) (M : D.Dk) (ks : List Kp) : Prop where
  room : M.room = 1048576
  fuse : M.fuse = -1
  dead : M.dead = false
  len : M.files.length = ks.length
  at_ : ∀ k ∈ ks, D.fnd D.Fl.name k.id M.files = some (fl k)
  only : ∀ f ∈ M.files, ∃ k ∈ ks, f.name = k.id
  ids : ks.Pairwise fun a b => a.id ≠ b.id
  ok : ∀ k ∈ ks, k.sure ≤ k.texts.length ∧ k.texts.length ≤ i ∧ 0 < k.id.length ∧ k.id.length ≤ 60 ∧ ∀ t ∈ k.texts, t.length ≤ 60
  names : M.files.Pairwise fun x y => x.name ≠ y.name
  used : D.used M.files ≤ 100 * i
  few : ks.length ≤ i
  some_ : ∀ k ∈ ks, 0 < k.texts.length
theorem J.start : J 0 ⟨1048576, -1, false, []⟩ [] := ⟨rfl, rfl, rfl, rfl, by simp, by simp, List.Pairwise.nil, by simp, List.Pairwise.nil, by simp [D.used], by simp, by simp⟩
theorem J.skip {i : Nat} {M : D.Dk} {ks : List Kp} (h : J i M ks) : J (i + 1) M ks :=
  { h with ok := fun k hk => by obtain ⟨a, b, c⟩ := h.ok k hk; exact ⟨a, by omega, c⟩, used := by have := h.used; omega, few := by have := h.few; omega }
theorem frames_snoc (ts : List (List UInt8)) (t : List UInt8) : C.frames (ts ++ [t]) = C.frames ts ++ C.wrap t := by rw [C.frames_append]; simp [C.frames]
theorem fl_snoc (ts : List (List UInt8)) (t : List UInt8) (s : Nat) (h : s ≤ ts.length) : C.fl (ts ++ [t]) s = C.fl ts s := by
  unfold C.fl; rw [List.take_append_of_le_length h]
theorem get_id {ks : List Kp} (h : ks.Pairwise fun a b => a.id ≠ b.id) {i j : Nat} {a b : Kp} (ha : ks[i]? = some a) (hb : ks[j]? = some b) (e : a.id = b.id) : i = j := by
  rcases Nat.lt_trichotomy i j with h1 | h1 | h1
  · exact absurd e (by
      obtain ⟨hi, rfl⟩ := List.getElem?_eq_some_iff.1 ha
      obtain ⟨hj, rfl⟩ := List.getElem?_eq_some_iff.1 hb
      exact (List.pairwise_iff_getElem.1 h) i j hi hj h1)
  · exact h1
  · exact absurd e.symm (by
      obtain ⟨hi, rfl⟩ := List.getElem?_eq_some_iff.1 ha
      obtain ⟨hj, rfl⟩ := List.getElem?_eq_some_iff.1 hb
      exact (List.pairwise_iff_getElem.1 h) j i hj hi h1)
theorem pair_set {ks : List Kp} (h : ks.Pairwise fun a b => a.id ≠ b.id) {j : Nat} {k x : Kp} (hk : ks[j]? = some k) (hx : x.id = k.id) : (ks.set j x).Pairwise fun a b => a.id ≠ b.id := by
  have hm : (ks.set j x).map Kp.id = ks.map Kp.id := by
    rw [List.map_set, hx]
    apply List.ext_getElem?
    intro n
    rw [List.getElem?_set]
    split
    · rename_i e
      subst e
      obtain ⟨hj, rfl⟩ := List.getElem?_eq_some_iff.1 hk
      simp [hj]
    · rfl
  have h1 : (ks.map Kp.id).Pairwise (· ≠ ·) := List.pairwise_map.2 h
  rw [← hm] at h1
  exact List.pairwise_map.1 h1
theorem mem_setK {ks : List Kp} (h : ks.Pairwise fun a b => a.id ≠ b.id) {j : Nat} {k x y : Kp} (hk : ks[j]? = some k) (_hx : x.id = k.id) (hy : y ∈ ks.set j x) : y = x ∨ (y ∈ ks ∧ y.id ≠ k.id) := by
  obtain ⟨n, hn⟩ := List.getElem?_of_mem hy
  rw [List.getElem?_set] at hn
  split at hn
  · split at hn
    · injection hn with hn; exact .inl hn.symm
    · cases hn
  · rename_i hne
    exact .inr ⟨List.mem_of_getElem? hn, fun e => hne (get_id h hk hn e.symm)⟩
theorem good_id {n : List UInt8} (h0 : 0 < n.length) (h1 : n.length ≤ 60) : D.good n = true := by
  unfold D.good
  have : n.isEmpty = false := by cases n with | nil => simp at h0 | cons _ _ => rfl
  rw [this]
  simp; omega
theorem deed_J {i : Nat} {M : D.Dk} {ks : List Kp} (h : J i M ks) : D.deed M = (M, 0) := D.deed_calm (by rw [h.fuse]; omega)
/-- Which list the file's row is written into: one that is there, or a new one. -/
def Into (ks : List Kp) (id : List UInt8) (ks' : List Kp) (j : Nat) (k : Kp) : Prop :=
  (ks' = ks ∧ ks[j]? = some k ∧ k.id = id) ∨ (ks' = ks ++ [⟨id, [], 0⟩] ∧ j = ks.length ∧ k = ⟨id, [], 0⟩ ∧ ∀ x ∈ ks, x.id ≠ id)
theorem none_of {i : Nat} {M : D.Dk} {ks : List Kp} (h : J i M ks) {id : List UInt8} (hn : ∀ x ∈ ks, x.id ≠ id) : D.fnd D.Fl.name id M.files = none := by
  cases hf : D.fnd D.Fl.name id M.files with
  | none => rfl
  | some f =>
    obtain ⟨hm, he⟩ := D.fnd_mem D.Fl.name hf
    obtain ⟨k, hk, e⟩ := h.only f hm
    exact absurd (e.symm.trans he) (hn k hk)
theorem J.add {i : Nat} {M : D.Dk} {ks : List Kp} (h : J i M ks) (hi : i < 20) {id t : List UInt8} (h0 : 0 < id.length) (h1 : id.length ≤ 60) (ht : t.length ≤ 60) :
    ∃ M', D.append M id (C.wrap t) = (M', 0) ∧ ∀ ks' j k, Into ks id ks' j k → J (i + 1) M' (ks'.set j ⟨id, k.texts ++ [t], k.sure⟩) := by
  have hw : (C.wrap t).length ≤ 68 := by rw [C.wrap_length]; omega
  have hu := h.used
  have hfew := h.few
  have hroom : ((C.wrap t).length : Int) ≤ M.room - (D.used M.files : Int) := by rw [h.room]; omega
  have hd := deed_J h
  have husd := D.append_used (n := id) (b := C.wrap t) h.names
  by_cases hex : ∃ (j : Nat) (k : Kp), ks[j]? = some k ∧ k.id = id
  · obtain ⟨j, k, hk, hid⟩ := hex
    have hkm := List.mem_of_getElem? hk
    have hf := h.at_ k hkm
    rw [hid] at hf
    have e := D.append_old h.dead (good_id h0 h1) hf hroom
    rw [hd] at e
    refine ⟨_, e, fun ks' j' k' hin => ?_⟩
    rw [e] at husd
    rcases hin with ⟨rfl, hk', hid'⟩ | ⟨_, _, _, hno⟩
    · obtain rfl := get_id h.ids hk hk' (hid.trans hid'.symm)
      rw [hk] at hk'
      injection hk' with hk'
      subst hk'
      have hx : (⟨id, k.texts ++ [t], k.sure⟩ : Kp).id = k.id := hid.symm
      obtain ⟨o1, o2, o3, o4, o5⟩ := h.ok k hkm
      refine ⟨h.room, h.fuse, h.dead, ?_, fun y hy => ?_, fun f hf' => ?_, pair_set h.ids hk hx, fun y hy => ?_, ?_, ?_, by rw [List.length_set]; omega, fun y hy => (mem_setK h.ids hk hx hy).elim (fun e => by rw [e]; show 0 < (k.texts ++ [t]).length; rw [List.length_append, List.length_singleton]; omega) (fun e => h.some_ y e.1)⟩
      · show (D.upd _ _ _ _).length = _
        rw [D.upd_length, List.length_set, h.len]
      · show D.fnd _ _ (D.upd _ _ _ _) = _
        rcases mem_setK h.ids hk hx hy with rfl | ⟨hy1, hy2⟩
        · rw [D.fnd_upd_same D.Fl.name (g := fun f => { f with b := f.b ++ C.wrap t }) (fun _ => rfl), hf]
          show some (⟨k.id, C.frames k.texts ++ C.wrap t, C.fl k.texts k.sure⟩ : D.Fl) = some ⟨id, C.frames (k.texts ++ [t]), C.fl (k.texts ++ [t]) k.sure⟩
          rw [frames_snoc, fl_snoc _ _ _ o1, hid]
        · rw [D.fnd_upd_other D.Fl.name (g := fun f => { f with b := f.b ++ C.wrap t }) (fun _ => rfl) (by rw [← hid]; exact hy2)]
          exact h.at_ y hy1
      · have hf2 : f.name ∈ (D.upd D.Fl.name id (fun f => { f with b := f.b ++ C.wrap t }) M.files).map D.Fl.name := List.mem_map_of_mem hf'
        rw [D.upd_keys D.Fl.name id (g := fun f => { f with b := f.b ++ C.wrap t }) (fun _ => rfl)] at hf2
        obtain ⟨f0, hf0, e0⟩ := List.mem_map.1 hf2
        obtain ⟨k0, hk0, e1⟩ := h.only f0 hf0
        by_cases hc : k0.id = k.id
        · refine ⟨⟨id, k.texts ++ [t], k.sure⟩, List.mem_of_getElem? (i := j) ?_, ?_⟩
          · rw [List.getElem?_set_self (List.getElem?_eq_some_iff.1 hk).1]
          · show f.name = id
            rw [← e0, e1, hc, hid]
        · obtain ⟨n, hn⟩ := List.getElem?_of_mem hk0
          refine ⟨k0, List.mem_of_getElem? (i := n) ?_, by rw [← e0, e1]⟩
          rw [List.getElem?_set_ne]
          · exact hn
          · rintro rfl
            rw [hk] at hn; injection hn with hn; exact hc (by rw [hn])
      · rcases mem_setK h.ids hk hx hy with rfl | ⟨hy1, _⟩
        · refine ⟨by show k.sure ≤ (k.texts ++ [t]).length; rw [List.length_append]; omega, by show (k.texts ++ [t]).length ≤ _; rw [List.length_append, List.length_singleton]; omega, h0, h1, fun t' ht' => ?_⟩
          rcases List.mem_append.1 ht' with h9 | h9
          · exact o5 t' h9
          · rw [List.mem_singleton.1 h9]; exact ht
        · obtain ⟨a, b, c⟩ := h.ok y hy1
          exact ⟨a, by omega, c⟩
      · have hm : ((D.upd D.Fl.name id (fun f => { f with b := f.b ++ C.wrap t }) M.files).map D.Fl.name).Pairwise (· ≠ ·) := by
          rw [D.upd_keys D.Fl.name id (g := fun f => { f with b := f.b ++ C.wrap t }) (fun _ => rfl)]; exact List.pairwise_map.2 h.names
        exact List.pairwise_map.1 hm
      · have : D.used (D.upd D.Fl.name id (fun f => { f with b := f.b ++ C.wrap t }) M.files) ≤ D.used M.files + (C.wrap t).length := husd
        show D.used (D.upd _ _ _ _) ≤ _
        omega
    · exact absurd hid (hno k hkm)
  · have hno : ∀ x ∈ ks, x.id ≠ id := fun x hx e => by
      obtain ⟨n, hn⟩ := List.getElem?_of_mem hx
      exact hex ⟨n, x, hn, e⟩
    have hf := none_of h hno
    have e := D.append_new h.dead (good_id h0 h1) hf hroom (by rw [h.len]; omega)
    rw [hd] at e
    refine ⟨_, e, fun ks' j' k' hin => ?_⟩
    rw [e] at husd
    rcases hin with ⟨_, hk', hid'⟩ | ⟨rfl, rfl, rfl, _⟩
    · exact absurd ⟨j', k', hk', hid'⟩ hex
    · have hset : (ks ++ [(⟨id, [], 0⟩ : Kp)]).set ks.length ⟨id, [] ++ [t], 0⟩ = ks ++ [⟨id, [t], 0⟩] := by
        rw [List.set_append_right _ _ (Nat.le_refl _), Nat.sub_self]; rfl
      show J (i + 1) _ ((ks ++ [(⟨id, [], 0⟩ : Kp)]).set ks.length ⟨id, [] ++ [t], 0⟩)
      rw [hset]
      refine ⟨h.room, h.fuse, h.dead, ?_, fun y hy => ?_, fun f hf' => ?_, ?_, fun y hy => ?_, ?_, ?_, by rw [List.length_append, List.length_singleton]; omega, fun y hy => (List.mem_append.1 hy).elim (fun e => h.some_ y e) (fun e => by rw [List.mem_singleton.1 e]; exact Nat.one_pos)⟩
      · show (D.ins _ _ _).length = _
        rw [D.ins_length, List.length_append, List.length_singleton, h.len]
      · show D.fnd _ _ (D.ins _ _ _) = _
        rcases List.mem_append.1 hy with hy1 | hy1
        · rw [D.fnd_ins_other D.Fl.name (fun e => hno y hy1 e.symm)]
          exact h.at_ y hy1
        · rw [List.mem_singleton.1 hy1]
          have := D.fnd_ins_same D.Fl.name (x := ⟨id, C.wrap t, 0⟩) M.files hf
          refine this.trans ?_
          show some (⟨id, C.wrap t, 0⟩ : D.Fl) = some ⟨id, C.frames [t], C.fl [t] 0⟩
          rw [C.fl_zero, show C.frames [t] = C.wrap t by simp [C.frames]]
      · rcases (D.mem_ins D.Fl.name).1 hf' with rfl | hf2
        · exact ⟨⟨id, [t], 0⟩, by simp, rfl⟩
        · obtain ⟨k0, hk0, e1⟩ := h.only f hf2
          exact ⟨k0, List.mem_append_left _ hk0, e1⟩
      · rw [List.pairwise_append]
        exact ⟨h.ids, by simp, fun a ha b hb => by rw [List.mem_singleton.1 hb]; exact hno a ha⟩
      · rcases List.mem_append.1 hy with hy1 | hy1
        · obtain ⟨a, b, c⟩ := h.ok y hy1
          exact ⟨a, by omega, c⟩
        · rw [List.mem_singleton.1 hy1]
          exact ⟨Nat.zero_le _, by show 1 ≤ i + 1; omega, h0, h1, by simpa using ht⟩
      · have hp := D.ins_perm D.Fl.name ⟨id, C.wrap t, 0⟩ M.files
        refine (List.Perm.pairwise_iff (fun {a b} (hab : a.name ≠ b.name) => hab.symm) hp).2 ?_
        rw [List.pairwise_cons]
        exact ⟨fun f hf' => (D.fnd_none D.Fl.name hf f hf').symm, h.names⟩
      · have : D.used (D.ins D.Fl.name ⟨id, C.wrap t, 0⟩ M.files) ≤ D.used M.files + (C.wrap t).length := husd
        show D.used (D.ins _ _ _) ≤ _
        omega
theorem J.sync {i : Nat} {M : D.Dk} {ks : List Kp} (h : J i M ks) {j : Nat} {k : Kp} (hk : ks[j]? = some k) :
    ∃ M', D.sync M k.id = (M', 0) ∧ J i M' (ks.set j ⟨k.id, k.texts, k.texts.length⟩) := by
  have hd := deed_J h
  have hkm := List.mem_of_getElem? hk
  have hf := h.at_ k hkm
  have e := D.sync_ok h.dead hf (by rw [hd])
  rw [hd] at e
  refine ⟨_, e, ?_⟩
  have hus : D.used (D.sync M k.id).1.files = D.used M.files := D.sync_used
  rw [e] at hus
  have hx : (⟨k.id, k.texts, k.texts.length⟩ : Kp).id = k.id := rfl
  obtain ⟨o1, o2, o3, o4, o5⟩ := h.ok k hkm
  refine ⟨h.room, h.fuse, h.dead, ?_, fun y hy => ?_, fun f hf' => ?_, pair_set h.ids hk hx, fun y hy => ?_, ?_, ?_, by rw [List.length_set]; exact h.few, fun y hy => (mem_setK h.ids hk hx hy).elim (fun e => by rw [e]; exact h.some_ k hkm) (fun e => h.some_ y e.1)⟩
  · show (D.upd _ _ _ _).length = _
    rw [D.upd_length, List.length_set, h.len]
  · show D.fnd _ _ (D.upd _ _ _ _) = _
    rcases mem_setK h.ids hk hx hy with rfl | ⟨hy1, hy2⟩
    · rw [D.fnd_upd_same D.Fl.name (g := fun f => { f with sure := f.b.length }) (fun _ => rfl), hf]
      show some (⟨k.id, C.frames k.texts, (C.frames k.texts).length⟩ : D.Fl) = some ⟨k.id, C.frames k.texts, C.fl k.texts k.texts.length⟩
      rw [C.fl_all]
    · rw [D.fnd_upd_other D.Fl.name (g := fun f => { f with sure := f.b.length }) (fun _ => rfl) hy2]
      exact h.at_ y hy1
  · have hf2 : f.name ∈ (D.upd D.Fl.name k.id (fun f => { f with sure := f.b.length }) M.files).map D.Fl.name := List.mem_map_of_mem hf'
    rw [D.upd_keys D.Fl.name k.id (g := fun f => { f with sure := f.b.length }) (fun _ => rfl)] at hf2
    obtain ⟨f0, hf0, e0⟩ := List.mem_map.1 hf2
    obtain ⟨k0, hk0, e1⟩ := h.only f0 hf0
    by_cases hc : k0.id = k.id
    · refine ⟨⟨k.id, k.texts, k.texts.length⟩, List.mem_of_getElem? (i := j) ?_, ?_⟩
      · rw [List.getElem?_set_self (List.getElem?_eq_some_iff.1 hk).1]
      · show f.name = k.id
        rw [← e0, e1, hc]
    · obtain ⟨n, hn⟩ := List.getElem?_of_mem hk0
      refine ⟨k0, List.mem_of_getElem? (i := n) ?_, by rw [← e0, e1]⟩
      rw [List.getElem?_set_ne]
      · exact hn
      · rintro rfl
        rw [hk] at hn; injection hn with hn; exact hc (by rw [hn])
  · rcases mem_setK h.ids hk hx hy with rfl | ⟨hy1, _⟩
    · exact ⟨Nat.le_refl _, o2, o3, o4, o5⟩
    · exact h.ok y hy1
  · have hm : ((D.upd D.Fl.name k.id (fun f => { f with sure := f.b.length }) M.files).map D.Fl.name).Pairwise (· ≠ ·) := by
      rw [D.upd_keys D.Fl.name k.id (g := fun f => { f with sure := f.b.length }) (fun _ => rfl)]; exact List.pairwise_map.2 h.names
    exact List.pairwise_map.1 hm
  · have : D.used (D.upd D.Fl.name k.id (fun f => { f with sure := f.b.length }) M.files) = D.used M.files := hus
    show D.used (D.upd _ _ _ _) ≤ _
    rw [this]; exact h.used
theorem cut_find (ts : List (List UInt8)) (cut : Nat) : ∀ (n s : Nat), ts.length - s = n → s ≤ ts.length → C.fl ts s ≤ cut → ∃ m, s ≤ m ∧ m ≤ ts.length ∧ C.fl ts m ≤ cut ∧ (m < ts.length → cut < C.fl ts (m + 1))
  | 0, s, hn, hs, h1 => ⟨s, Nat.le_refl _, hs, h1, fun h => by omega⟩
  | n + 1, s, hn, hs, h1 => by
    by_cases h : C.fl ts (s + 1) ≤ cut
    · obtain ⟨m, a, b, c⟩ := cut_find ts cut n (s + 1) (by omega) (by omega) h
      exact ⟨m, by omega, b, c⟩
    · exact ⟨s, Nat.le_refl _, hs, h1, fun _ => by omega⟩
theorem J.crash {i : Nat} {M : D.Dk} {ks : List Kp} (h : J i M ks) (keeps : List Int) :
    (D.list (D.crash M keeps)).length = ks.length ∧ ∀ k ∈ ks, ∃ b m, D.read (D.crash M keeps) k.id = (b, 0) ∧ b.length ≤ 100 * i ∧ (C.all b).1 = k.texts.take m ∧ k.sure ≤ m ∧ m ≤ k.texts.length := by
  constructor
  · unfold D.list
    rw [if_neg (by show ¬ false = true; simp), List.length_map]
    show (D.crashL keeps 0 M.files).length = _
    rw [D.crashL_length, h.len]
  · intro k hk
    obtain ⟨o1, o2, o3, o4, o5⟩ := h.ok k hk
    obtain ⟨n, hn⟩ := D.fnd_crashL keeps k.id 0 M.files
    have hf := h.at_ k hk
    rw [hf] at hn
    have hfb : (C.frames k.texts).length ≤ 100 * i := by
      have h9 := D.used_mem (D.fnd_mem D.Fl.name hf).1
      have := h.used
      exact Nat.le_trans h9 this
    have hrd : D.read (D.crash M keeps) k.id = ((D.crashF keeps n (fl k)).b, 0) := D.read_some (f := D.crashF keeps n (fl k)) rfl hn
    obtain ⟨m, m1, m2, m3, m4⟩ := cut_find k.texts (C.fl k.texts k.sure + D.kOf keeps n ((C.frames k.texts).length - C.fl k.texts k.sure + 1)) _ k.sure rfl o1 (Nat.le_add_right _ _)
    refine ⟨_, m, hrd, ?_, ?_, m1, m2⟩
    · show ((C.frames k.texts).take _).length ≤ _
      rw [List.length_take]; omega
    · show (C.all ((C.frames k.texts).take _)).1 = _
      have := C.all_cut k.texts (fun t ht => by have := o5 t ht; omega) _ m m2 m3 m4
      exact congrArg Prod.fst this
end K
end Go.Proofs.Ytknkbioalohofaa
