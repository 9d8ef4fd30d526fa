/- How a disk lies in memory: the disk's block, its map, a block for each file; what a call of the disk leaves as it was. -/
import Derived.Test.YtknkbioalohofaaKit5
import Derived.Test.YtknkbioalohofaaPureDisk
import Derived.Maps.OwnSet
import Derived.Maps.RangeWalk
import Derived.Maps.Ext
namespace Go.Proofs.Ytknkbioalohofaa
open Go.RowKit Go.Maps Go.ChangeMaps Go.MapKept Go.WideMaps

theorem lawK : Keyed Try.prog 9 := string_keyed Try.underlying9
def ptrV (b : Nat) : Value := .pointer (some ⟨b, 0, none⟩)
def ptrO : Option Nat → Value
  | none => .pointer none
  | some b => ptrV b
/-- How a pointer reads among a map's elements: by its block's number. -/
def ptrElem : Value → Option (DataW Unit × List MemPlace)
  | .pointer (some ⟨b, 0, none⟩) => some (.lit (.int .i64 (b : Int)), [])
  | .pointer none => some (.lit (.int .i64 (-1)), [])
  | _ => none
theorem ptrElem_mk (b : Nat) : ptrElem (ptrV b) = some (.lit (.int .i64 (b : Int)), []) := rfl
theorem ptrElem_inv {v : Value} {y : DataW Unit × List MemPlace} (h : ptrElem v = some y) : ∃ c : Option Nat, v = ptrO c ∧ y.1 = .lit (.int .i64 (match c with | some b => (b : Int) | none => -1)) := by
  unfold ptrElem at h
  split at h
  · cases h; exact ⟨some _, rfl, rfl⟩
  · cases h; exact ⟨none, rfl, rfl⟩
  · cases h
theorem ptrElem_some {v : Value} {b : Nat} {ps : List MemPlace} (h : ptrElem v = some (.lit (.int .i64 (b : Int)), ps)) : v = ptrV b := by
  obtain ⟨c, rfl, hc⟩ := ptrElem_inv h
  cases c with
  | none => injection hc with hc; injection hc with _ hc; exfalso; change (b : Int) = -1 at hc; omega
  | some k => injection hc with hc; injection hc with _ hc; rw [Int.ofNat_inj.1 hc]; rfl
theorem ptrElem_nil {v : Value} {ps : List MemPlace} (h : ptrElem v = some (.lit (.int .i64 (-1)), ps)) : v = .pointer none := by
  obtain ⟨c, rfl, hc⟩ := ptrElem_inv h
  cases c with
  | none => rfl
  | some k => injection hc with hc; injection hc with _ hc; exfalso; change (-1 : Int) = (k : Int) at hc; omega
theorem zero_ptr (w : World) : (zeroValue 127).run Try.prog w = .ok (.pointer none) w := by kernel_rfl
theorem keyS (n : List UInt8) (h : n.length ≤ 9223372036854775807) : keyOf Try.prog 9 (.string ⟨n.toArray⟩) = some (.string n) := by
  have := keyOf_string_mk (P := Try.prog) (s := ⟨n.toArray⟩) Try.underlying9 (by show n.toArray.size ≤ maxLen; rw [List.size_toArray]; exact h)
  simpa using this
/-- The disk's map. -/
def MapE (w : World) (mb : Nat) (Es : List D.Ent) : Prop := w.ownsMap Try.prog 9 ptrElem mb Es.length (D.datum Es)
theorem ownsMap_tight {H : Type} {P : Program} {k : TypeId} {R : Value → Option (DataW H × List MemPlace)} {w : World} {b n : Nat} {D : DataW H} (h : w.ownsMap P k R b n D) : w.ownsMap P k R b (Maps.size D) D := by
  obtain ⟨es, clock, hb, F, hs, hD⟩ := h
  refine ⟨es, clock, hb, F, ?_, hD⟩
  rw [hD]
  simp [Maps.size, length_sorted]
theorem MapE.of {w : World} {mb n : Nat} {Es : List D.Ent} (h : w.ownsMap Try.prog 9 ptrElem mb n (D.datum Es)) : MapE w mb Es := by
  have := ownsMap_tight h
  rw [D.datum_size] at this
  exact this
theorem MapE.lt {w : World} {mb : Nat} {Es : List D.Ent} (h : MapE w mb Es) : mb < w.heap.size := World.ownsMap.lt h
theorem MapE.heap {w w' : World} {mb : Nat} {Es : List D.Ent} (h : MapE w mb Es) (hk : w'.heap[mb]? = w.heap[mb]?) : MapE w' mb Es := by
  obtain ⟨es, clock, hb, r⟩ := h
  exact ⟨es, clock, hk.trans hb, r⟩
theorem MapE.isMap {w : World} {mb : Nat} {Es : List D.Ent} (h : MapE w mb Es) : ∃ es c, w.heap[mb]? = some (.map es c) := by
  obtain ⟨es, clock, hb, _⟩ := h
  exact ⟨es, clock, hb⟩
theorem MapE.look {w : World} {mb : Nat} {Es : List D.Ent} (h : MapE w mb Es) (n : List UInt8) (hn : n.length ≤ 9223372036854775807) :
    (Instr.lookup 124 (.map (some mb)) (.string ⟨n.toArray⟩) false).run Try.prog w = .ok (ptrO ((D.fnd D.kE n Es).map Prod.snd)) w := by
  obtain ⟨v, ps, hrun, hv⟩ := World.ownsMap.lookup h lawK Try.underlying124 (zero_ptr w) (zd := .lit (.int .i64 (-1))) (zp := []) rfl (keyS n hn)
  rw [hrun]
  rw [D.datum_at] at hv
  cases hf : D.fnd D.kE n Es with
  | none => rw [hf] at hv; rw [ptrElem_nil hv]; rfl
  | some x => rw [hf] at hv; rw [ptrElem_some hv]; rfl
theorem MapE.look_some {w : World} {mb : Nat} {Es : List D.Ent} (h : MapE w mb Es) {n : List UInt8} (hn : n.length ≤ 9223372036854775807) {x : D.Ent} (hf : D.fnd D.kE n Es = some x) :
    (Instr.lookup 124 (.map (some mb)) (.string ⟨n.toArray⟩) false).run Try.prog w = .ok (.pointer (some ⟨x.2, 0, none⟩)) w := by
  rw [h.look n hn, hf]; rfl
theorem MapE.look_none {w : World} {mb : Nat} {Es : List D.Ent} (h : MapE w mb Es) {n : List UInt8} (hn : n.length ≤ 9223372036854775807) (hf : D.fnd D.kE n Es = none) :
    (Instr.lookup 124 (.map (some mb)) (.string ⟨n.toArray⟩) false).run Try.prog w = .ok (.pointer none) w := by
  rw [h.look n hn, hf]; rfl

/-- A file's block. -/
def HeldF (w : World) (x : D.Ent) : Prop := ∃ v, Blk w x.2 #[v, .int .i64 (x.1.sure : Int)] 131 ∧ Buf w v x.1.b
structure DkE (B : Nat) (w : World) (p mb : Nat) (M : D.Dk) (Es : List D.Ent) : Prop where
  blk : Blk w p #[.int .i64 M.room, .map (some mb), .int .i64 M.fuse, .bool M.dead] 126
  map : MapE w mb Es
  eq : Es.map Prod.fst = M.files
  held : ∀ x ∈ Es, B ≤ x.2 ∧ HeldF w x ∧ x.1.sure ≤ x.1.b.length ∧ x.1.name.length ≤ 100
  apart : Es.Pairwise fun x y => x.2 ≠ y.2
  names : Es.Pairwise fun x y => x.1.name ≠ y.1.name
  baseP : B ≤ p
  baseM : B ≤ mb
  few : M.files.length ≤ 4096
  room : 0 ≤ M.room ∧ M.room < 9223372036854775808
  fuse : -1 ≤ M.fuse ∧ M.fuse < 9223372036854775808
def DkAt (B : Nat) (w : World) (p : Nat) (M : D.Dk) : Prop := ∃ mb Es, DkE B w p mb M Es
/-- What a call of the disk's leaves: all below B, and all that is neither the disk's nor a file's. -/
structure DStp (B : Nat) (w w' : World) : Prop where
  below : Below B w w'
  rest : ∀ (i : Nat) (cs : Array Value) (t : TypeId) (fz : Nat × Nat), w.heap[i]? = some (.cells cs t fz) → t ≠ 126 → t ≠ 131 → w'.heap[i]? = w.heap[i]?
theorem DStp.refl (B : Nat) (w : World) : DStp B w w := ⟨Below.refl _ _, fun _ _ _ _ _ _ _ => rfl⟩
theorem DStp.trans {B : Nat} {a b c : World} (h : DStp B a b) (k : DStp B b c) : DStp B a c :=
  ⟨h.below.trans k.below, fun i cs t fz hi h1 h2 => by
    have e := h.rest i cs t fz hi h1 h2
    exact (k.rest i cs t fz (e.trans hi) h1 h2).trans e⟩
theorem DStp.of {B : Nat} {w w' : World} (h : Below w.heap.size w w') (hB : B ≤ w.heap.size) : DStp B w w' :=
  ⟨h.mono hB, fun i _ _ _ hi _ _ => h.block i (Array.getElem?_eq_some_iff.1 hi).1⟩
theorem DStp.size {B : Nat} {w w' : World} (h : DStp B w w') : w.heap.size ≤ w'.heap.size := h.below.size
/-- One block, the disk's or a file's, is written. -/
theorem DStp.only {B : Nat} {w w' : World} {g : Nat} {cs : Array Value} {t : TypeId} (h : Blk w g cs t) (ht : t = 126 ∨ t = 131) (ho : Only g w w') (hB : B ≤ g) : DStp B w w' :=
  ⟨ho.below (Below.refl B w) hB, fun i cs' t' fz hi h1 h2 => by
    refine ho.block i ?_
    rintro rfl
    unfold Blk at h
    rw [h] at hi
    injection hi with hi
    injection hi with _ e
    subst e
    rcases ht with rfl | rfl
    · exact h1 rfl
    · exact h2 rfl⟩
/-- The map is written. -/
theorem DStp.map {B : Nat} {w w' : World} {mb : Nat} (h : w.mapTurned w' mb) (hB : B ≤ mb) : DStp B w w' := by
  obtain ⟨es, clock, es', clock', hb, rfl⟩ := h
  refine ⟨⟨rfl, rfl, rfl, by simp [setBlock], fun i hi => heap_setBlock_other hb _ (by omega)⟩, fun i cs t fz hi _ _ => heap_setBlock_other hb _ ?_⟩
  rintro rfl
  rw [hb] at hi
  cases hi
theorem Blk.dstp {B : Nat} {w w' : World} {g : Nat} {cs : Array Value} {t : TypeId} (h : Blk w g cs t) (d : DStp B w w') (h1 : t ≠ 126) (h2 : t ≠ 131) : Blk w' g cs t := (d.rest g cs t _ h h1 h2).trans h
theorem Row1.dstp {B : Nat} {w w' : World} {e : TypeId} {v : Value} {xs : List Value} (h : Row1 w e v xs) (d : DStp B w w') (h1 : e ≠ 126) (h2 : e ≠ 131) : Row1 w' e v xs := by
  refine h.kept fun g hg => ?_
  rcases h.2 with ⟨rfl, _⟩ | ⟨g', cap, cur, rfl, _, hh, _⟩
  · cases hg
  · injection hg with hg
    subst hg
    exact d.rest _ _ _ _ hh h1 h2
theorem Buf.dstp {B : Nat} {w w' : World} {v : Value} {xs : List UInt8} (h : Buf w v xs) (d : DStp B w w') : Buf w' v xs := by
  refine h.kept fun g hg => ?_
  rcases h.2 with ⟨rfl, _⟩ | ⟨g', cap, cur, rfl, _, hh, _⟩
  · cases hg
  · injection hg with hg
    subst hg
    exact d.rest _ _ _ _ hh (by decide) (by decide)
theorem HeldF.heap {w w' : World} {x : D.Ent} (h : HeldF w x) (hd : ∀ (i : Nat) (cs : Array Value) (t : TypeId) (fz : Nat × Nat), w.heap[i]? = some (.cells cs t fz) → t = 131 ∧ i = x.2 ∨ t = 5 → w'.heap[i]? = w.heap[i]?) : HeldF w' x := by
  obtain ⟨v, b, r⟩ := h
  refine ⟨v, (hd x.2 _ _ _ b (.inl ⟨rfl, rfl⟩)).trans b, r.kept fun g hg => ?_⟩
  rcases r.2 with ⟨rfl, _⟩ | ⟨g', cap, cur, rfl, _, hh, _⟩
  · cases hg
  · injection hg with hg
    subst hg
    exact hd _ _ _ _ hh (.inr rfl)
/-- The disk's blocks stay where what they are made of stays. -/
theorem DkE.heap {B : Nat} {w w' : World} {p mb : Nat} {M : D.Dk} {Es : List D.Ent} (h : DkE B w p mb M Es)
    (h1 : ∀ (i : Nat) (cs : Array Value) (t : TypeId) (fz : Nat × Nat), w.heap[i]? = some (.cells cs t fz) → t = 126 ∨ t = 131 ∨ t = 5 → w'.heap[i]? = w.heap[i]?)
    (h2 : ∀ (i : Nat) (es : Array MapEntry) (c : Nat), w.heap[i]? = some (.map es c) → w'.heap[i]? = w.heap[i]?) : DkE B w' p mb M Es := by
  obtain ⟨es, c, hm⟩ := h.map.isMap
  refine ⟨(h1 p _ _ _ h.blk (.inl rfl)).trans h.blk, h.map.heap (h2 mb es c hm), h.eq, fun x hx => ?_, h.apart, h.names, h.baseP, h.baseM, h.few, h.room, h.fuse⟩
  obtain ⟨a1, a2, a3⟩ := h.held x hx
  exact ⟨a1, a2.heap fun i cs t fz hi ht => h1 i cs t fz hi (by rcases ht with ⟨e, _⟩ | e; exact .inr (.inl e); exact .inr (.inr e)), a3⟩
theorem DkE.at_ {B : Nat} {w w' : World} {p mb : Nat} {M : D.Dk} {Es : List D.Ent} (h : DkE B w p mb M Es) (hb : Below w.heap.size w w') : DkE B w' p mb M Es :=
  h.heap (fun i _ _ _ hi _ => hb.block i (Array.getElem?_eq_some_iff.1 hi).1) (fun i _ _ hi => hb.block i (Array.getElem?_eq_some_iff.1 hi).1)
theorem DkE.alloc {B : Nat} {w : World} {p mb : Nat} {M : D.Dk} {Es : List D.Ent} (h : DkE B w p mb M Es) (o : Obj) : DkE B (w.alloc o) p mb M Es := h.at_ ((Below.refl _ _).alloc (Nat.le_refl _) o)
theorem DkE.only {B : Nat} {w w' : World} {p mb : Nat} {M : D.Dk} {Es : List D.Ent} (h : DkE B w p mb M Es) {g : Nat} {cs : Array Value} {t : TypeId} {fz : Nat × Nat} (hg : w.heap[g]? = some (.cells cs t fz)) (ht : t ≠ 126 ∧ t ≠ 131 ∧ t ≠ 5) (ho : Only g w w') : DkE B w' p mb M Es :=
  h.heap (fun i cs' t' fz' hi h1 => ho.block i (by
    rintro rfl
    rw [hg] at hi
    injection hi with hi
    injection hi with _ e
    subst e
    rcases h1 with e | e | e
    · exact ht.1 e
    · exact ht.2.1 e
    · exact ht.2.2 e)) (fun i es c hi => ho.block i (by
    rintro rfl
    rw [hg] at hi
    cases hi))
theorem DkE.lt {B : Nat} {w : World} {p mb : Nat} {M : D.Dk} {Es : List D.Ent} (h : DkE B w p mb M Es) : B < w.heap.size := Nat.lt_of_le_of_lt h.baseP h.blk.lt
theorem DkAt.at_ {B : Nat} {w w' : World} {p : Nat} {M : D.Dk} (h : DkAt B w p M) (hb : Below w.heap.size w w') : DkAt B w' p M := by
  obtain ⟨mb, Es, h⟩ := h
  exact ⟨mb, Es, h.at_ hb⟩
theorem DkAt.lt {B : Nat} {w : World} {p : Nat} {M : D.Dk} (h : DkAt B w p M) : B < w.heap.size := by
  obtain ⟨mb, Es, h⟩ := h
  exact h.lt
theorem DkAt.only {B : Nat} {w w' : World} {p : Nat} {M : D.Dk} (h : DkAt B w p M) {g : Nat} {cs : Array Value} {t : TypeId} {fz : Nat × Nat} (hg : w.heap[g]? = some (.cells cs t fz)) (ht : t ≠ 126 ∧ t ≠ 131 ∧ t ≠ 5) (ho : Only g w w') : DkAt B w' p M := by
  obtain ⟨mb, Es, h⟩ := h
  exact ⟨mb, Es, h.only hg ht ho⟩
/-- Another disk's cells than a file's or a map's. -/
theorem DkE.find {B : Nat} {w : World} {p mb : Nat} {M : D.Dk} {Es : List D.Ent} (h : DkE B w p mb M Es) (n : List UInt8) : D.fnd D.Fl.name n M.files = (D.fnd D.kE n Es).map Prod.fst := by
  rw [← h.eq]; exact (D.fnd_fst n Es).symm
theorem DkE.len {B : Nat} {w : World} {p mb : Nat} {M : D.Dk} {Es : List D.Ent} (h : DkE B w p mb M Es) : Es.length = M.files.length := by rw [← h.eq, List.length_map]
end Go.Proofs.Ytknkbioalohofaa
