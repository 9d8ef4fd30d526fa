/- What a call of the disk's makes of the disk's blocks: a file is written, gone, there anew. -/
import Derived.Test.YtknkbioalohofaaDkUsed
namespace Go.Proofs.Ytknkbioalohofaa
open Go.RowKit Go.Maps Go.ChangeMaps Go.MapKept Go.WideMaps

theorem ne_of_type {w : World} {i j : Nat} {cs cs' : Array Value} {t t' : TypeId} {fz fz' : Nat × Nat} (h : w.heap[i]? = some (.cells cs t fz)) (h' : w.heap[j]? = some (.cells cs' t' fz')) (hne : t ≠ t') : i ≠ j := by
  rintro rfl
  rw [h] at h'
  injection h' with h'
  injection h' with _ e
  exact hne e
theorem ne_of_map {w : World} {i j : Nat} {cs : Array Value} {t : TypeId} {fz : Nat × Nat} {es : Array MapEntry} {c : Nat} (h : w.heap[i]? = some (.cells cs t fz)) (h' : w.heap[j]? = some (.map es c)) : i ≠ j := by
  rintro rfl
  rw [h] at h'
  cases h'
namespace D
theorem upd_fst (n : List UInt8) (g : Fl → Fl) (l : List Ent) : (upd kE n (fun y => (g y.1, y.2)) l).map Prod.fst = upd Fl.name n g (l.map Prod.fst) := upd_map (key := kE) (key' := Fl.name) (f := Prod.fst) (fun _ => rfl) n (fun _ => rfl) l
theorem drp_fst (n : List UInt8) (l : List Ent) : (drp kE n l).map Prod.fst = drp Fl.name n (l.map Prod.fst) := drp_map (key := kE) (key' := Fl.name) (f := Prod.fst) (fun _ => rfl) n l
theorem ins_fst (x : Ent) (l : List Ent) : (ins kE x l).map Prod.fst = ins Fl.name x.1 (l.map Prod.fst) := ins_map (key := kE) (key' := Fl.name) (f := Prod.fst) (fun _ => rfl) x l
theorem datum_upd (n : List UInt8) (g : Fl → Fl) (hgn : ∀ y, (g y).name = y.name) (l : List Ent) : datum (upd kE n (fun y => (g y.1, y.2)) l) = datum l := by
  unfold datum upd
  rw [List.map_map]
  congr 1
  apply List.map_congr_left
  intro y _
  show ent (if _ then _ else _) = ent y
  split
  · show (Lit.string (g y.1).name, _) = (Lit.string y.1.name, _)
    rw [hgn]
  · rfl
end D
theorem names_uniq {l : List D.Ent} (hn : l.Pairwise fun x y => x.1.name ≠ y.1.name) {x y : D.Ent} (hx : x ∈ l) (hy : y ∈ l) (h : x.1.name = y.1.name) : x = y := by
  have h1 := D.fnd_of_mem hn x hx
  have h2 := D.fnd_of_mem hn y hy
  rw [h] at h1
  rw [h1] at h2
  exact Option.some.inj h2
theorem blks_uniq {l : List D.Ent} (ha : l.Pairwise fun x y => x.2 ≠ y.2) : ∀ {x y : D.Ent}, x ∈ l → y ∈ l → x.2 = y.2 → x = y := by
  induction l with
  | nil => intro x y hx; cases hx
  | cons z r ih =>
    rw [List.pairwise_cons] at ha
    intro x y hx hy h
    rcases List.mem_cons.1 hx with rfl | hx'
    · rcases List.mem_cons.1 hy with rfl | hy'
      · rfl
      · exact absurd h (ha.1 y hy')
    · rcases List.mem_cons.1 hy with rfl | hy'
      · exact absurd h.symm (ha.1 x hx')
      · exact ih ha.2 hx' hy' h
theorem DkE.setFile {B : Nat} {w w' : World} {p mb : Nat} {M : D.Dk} {Es : List D.Ent} (h : DkE B w p mb M Es) {x : D.Ent} (hx : x ∈ Es) (ho : Only x.2 w w') {v : Value} {b' : List UInt8} {s' : Nat}
    (hb : Blk w' x.2 #[v, .int .i64 (s' : Int)] 131) (hbuf : Buf w' v b') (g : D.Fl → D.Fl) (hg : g x.1 = ⟨x.1.name, b', s'⟩) (hgn : ∀ y, (g y).name = y.name) (hs : s' ≤ b'.length) :
    DkE B w' p mb { M with files := D.upd D.Fl.name x.1.name g M.files } (D.upd D.kE x.1.name (fun y => (g y.1, y.2)) Es) ∧ DStp B w w' := by
  obtain ⟨hB, ⟨v0, hb0, -⟩, -, -⟩ := h.held x hx
  obtain ⟨es, c, hm⟩ := h.map.isMap
  refine ⟨⟨h.blk.only ho (ne_of_type h.blk hb0 (by decide)), ?_, ?_, ?_, ?_, ?_, h.baseP, h.baseM, ?_, h.room, h.fuse⟩, DStp.only hb0 (.inr rfl) ho hB⟩
  · unfold MapE
    rw [D.datum_upd _ _ hgn, D.upd_length]
    exact h.map.heap (ho.block mb (ne_of_map hb0 hm).symm)
  · rw [D.upd_fst, h.eq]
  · intro y hy
    unfold D.upd at hy
    obtain ⟨z, hz, rfl⟩ := List.mem_map.1 hy
    obtain ⟨a1, a2, a3, a4⟩ := h.held z hz
    by_cases hn : (D.kE z == x.1.name) = true
    · obtain rfl := names_uniq h.names hz hx (by simpa [D.kE] using hn)
      rw [if_pos hn]
      refine ⟨a1, ⟨v, ?_, ?_⟩, ?_, ?_⟩
      · show Blk w' z.2 #[v, .int .i64 ((g z.1).sure : Int)] _
        rw [hg]; exact hb
      · show Buf w' v (g z.1).b
        rw [hg]; exact hbuf
      · show (g z.1).sure ≤ (g z.1).b.length
        rw [hg]; exact hs
      · show (g z.1).name.length ≤ 100
        rw [hgn]; exact a4
    · rw [if_neg hn]
      have hne : z.2 ≠ x.2 := fun e => hn (by rw [blks_uniq h.apart hz hx e]; simp [D.kE])
      refine ⟨a1, a2.heap fun i cs t fz hi ht => ho.block i ?_, a3, a4⟩
      rcases ht with ⟨_, rfl⟩ | rfl
      · exact hne
      · exact ne_of_type hi hb0 (by decide)
  · unfold D.upd
    rw [List.pairwise_map]
    refine h.apart.imp fun {a b} hab => ?_
    have e : ∀ y : D.Ent, (if (D.kE y == x.1.name) = true then (g y.1, y.2) else y).2 = y.2 := fun y => by split <;> rfl
    rw [e, e]; exact hab
  · unfold D.upd
    rw [List.pairwise_map]
    refine h.names.imp fun {a b} hab => ?_
    have e : ∀ y : D.Ent, (if (D.kE y == x.1.name) = true then (g y.1, y.2) else y).1.name = y.1.name := fun y => by split; exact hgn _; rfl
    rw [e, e]; exact hab
  · show (D.upd D.Fl.name x.1.name g M.files).length ≤ 4096
    rw [D.upd_length]; exact h.few
/-- The map is written. -/
theorem DkE.turned {B : Nat} {w w' : World} {p mb : Nat} {M : D.Dk} {Es : List D.Ent} (h : DkE B w p mb M Es) (ht : w.mapTurned w' mb) {Es' : List D.Ent} {M' : D.Dk} (hm : MapE w' mb Es') (heq : Es'.map Prod.fst = M'.files)
    (hh : ∀ x ∈ Es', B ≤ x.2 ∧ HeldF w x ∧ x.1.sure ≤ x.1.b.length ∧ x.1.name.length ≤ 100) (ha : Es'.Pairwise fun x y => x.2 ≠ y.2) (hn : Es'.Pairwise fun x y => x.1.name ≠ y.1.name) (hf : M'.files.length ≤ 4096)
    (h1 : M'.room = M.room) (h2 : M'.fuse = M.fuse) (h3 : M'.dead = M.dead) : DkE B w' p mb M' Es' ∧ DStp B w w' := by
  have hd := DStp.map ht h.baseM
  obtain ⟨es, clock, es', clock', hb, rfl⟩ := ht
  have k : ∀ (i : Nat) (cs : Array Value) (t : TypeId) (fz : Nat × Nat), w.heap[i]? = some (.cells cs t fz) → (setBlock w mb (.map es' clock')).heap[i]? = w.heap[i]? := fun i cs t fz hi => heap_setBlock_other hb _ (ne_of_map hi hb)
  refine ⟨⟨?_, hm, heq, fun x hx => ?_, ha, hn, h.baseP, h.baseM, hf, by rw [h1]; exact h.room, by rw [h2]; exact h.fuse⟩, hd⟩
  · rw [h1, h2, h3]
    exact (k p _ _ _ h.blk).trans h.blk
  · obtain ⟨a1, a2, a3⟩ := hh x hx
    exact ⟨a1, a2.heap fun i cs t fz hi _ => k i cs t fz hi, a3⟩
theorem DkE.del {B : Nat} {w w' : World} {p mb : Nat} {M : D.Dk} {Es : List D.Ent} (h : DkE B w p mb M Es) (n : List UInt8) (ht : w.mapTurned w' mb) {k : Nat} (hm : w'.ownsMap Try.prog 9 ptrElem mb k ((D.datum Es).del (.string n))) :
    DkE B w' p mb { M with files := D.drp D.Fl.name n M.files } (D.drp D.kE n Es) ∧ DStp B w w' := by
  rw [D.datum_del] at hm
  refine h.turned ht (MapE.of hm) ?_ (fun x hx => h.held x ((D.mem_drp D.kE).1 hx).1) (List.Pairwise.filter _ h.apart) (List.Pairwise.filter _ h.names) ?_ rfl rfl rfl
  · rw [D.drp_fst, h.eq]
  · exact Nat.le_trans (List.length_filter_le _ _) h.few
theorem pairwise_ins {R : D.Ent → D.Ent → Prop} (hs : ∀ {a b}, R a b → R b a) {x : D.Ent} {l : List D.Ent} (h : l.Pairwise R) (hx : ∀ y ∈ l, R x y) : (D.ins D.kE x l).Pairwise R :=
  ((D.ins_perm D.kE x l).pairwise_iff hs).2 (List.pairwise_cons.2 ⟨hx, h⟩)
theorem DkE.add {B : Nat} {w w' : World} {p mb : Nat} {M : D.Dk} {Es : List D.Ent} (h : DkE B w p mb M Es) (x : D.Ent) (ht : w.mapTurned w' mb) {k : Nat} (hm : w'.ownsMap Try.prog 9 ptrElem mb k ((D.datum Es).put (.string x.1.name) (.lit (.int .i64 (x.2 : Int)))))
    (hx : B ≤ x.2 ∧ HeldF w x ∧ x.1.sure ≤ x.1.b.length ∧ x.1.name.length ≤ 100) (hne : ∀ y ∈ Es, y.2 ≠ x.2) (hf : (D.drp D.Fl.name x.1.name M.files).length < 4096) :
    DkE B w' p mb { M with files := D.ins D.Fl.name x.1 (D.drp D.Fl.name x.1.name M.files) } (D.ins D.kE x (D.drp D.kE x.1.name Es)) ∧ DStp B w w' := by
  rw [D.datum_put] at hm
  refine h.turned ht (MapE.of hm) ?_ (fun y hy => ?_) ?_ ?_ ?_ rfl rfl rfl
  · rw [D.ins_fst, D.drp_fst, h.eq]
  · rcases (D.mem_ins D.kE).1 hy with rfl | hy
    · exact hx
    · exact h.held y ((D.mem_drp D.kE).1 hy).1
  · exact pairwise_ins (R := fun x y => x.2 ≠ y.2) (fun h => h.symm) (List.Pairwise.filter _ h.apart) fun y hy => (hne y ((D.mem_drp D.kE).1 hy).1).symm
  · exact pairwise_ins (R := fun x y => x.1.name ≠ y.1.name) (fun h => h.symm) (List.Pairwise.filter _ h.names) fun y hy => (((D.mem_drp D.kE).1 hy).2).symm
  · show (D.ins D.Fl.name x.1 _).length ≤ 4096
    rw [D.ins_length]; omega
end Go.Proofs.Ytknkbioalohofaa
