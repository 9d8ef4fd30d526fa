/- The document's disk as a value; the walks of its small functions: Find, Used. -/
import Derived.Test.YtknkbioalohofaaKitR
import Derived.Test.YtknkbioalohofaaPureDkRef
import Derived.Test.YtknkbioalohofaaDkKit
import Derived.Test.YtknkbioalohofaaKit6
namespace Go.Proofs.Ytknkbioalohofaa
open Go.RowKit

def filC (f : D.Fl) : List Value := [.string ⟨f.name.toArray⟩, .string ⟨f.b.toArray⟩, .int .i64 (f.sure : Int)]
/-- Files of the document's disk, in a row of the program's own. -/
def FRow (w : World) (v : Value) (l : List D.Fl) : Prop := RowN w 81 3 v (l.map filC)
def FRead (w : World) (v : Value) (l : List D.Fl) : Prop := SReadN w 3 v (l.map filC)
theorem info_file : InfoN 81 (.agg #[.string ⟨#[]⟩, .string ⟨#[]⟩, .int .i64 0]) 3 40 := ⟨by kernel_rfl, rfl, by omega, by omega⟩
theorem size_file : (Try.prog.info? 81).map (·.size) = some 3 := by kernel_rfl
theorem size_dsk : (Try.prog.info? 76).map (·.size) = some 4 := by kernel_rfl
section
variable {w w' : World} {v : Value} {l : List D.Fl}
theorem FRow.reads (h : FRow w v l) : FRead w v l := RowN.reads h
theorem FRead.at_ (h : FRead w v l) (hb : Below w.heap.size w w') : FRead w' v l := SReadN.at_ h hb
theorem fread_open (h : FRead w v l) : ∃ A c, v = .slice A l.length c ∧ l.length ≤ c ∧ FRead w (.slice A l.length c) l := by
  obtain ⟨A, c, rfl, h1, h2⟩ := sreadN_open h
  rw [List.length_map] at h1 h2 ⊢
  exact ⟨A, c, rfl, h1, h2⟩
theorem fread_at {A : Option Addr} {n c k : Nat} {f : D.Fl} (h : FRead w (.slice A n c) l) (hk : l[k]? = some f) : ∃ g o, A = some ⟨g, o, none⟩ ∧ g < w.heap.size ∧ w.rangeAt g (o + k * 3) (filC f) :=
  sreadN_at h (by rw [List.getElem?_map, hk]; rfl)
end
/-- Two new blocks. -/
theorem two_new (w : World) (a b : Array Value) (s t : TypeId) : Blk ((w.alloc (.cells a s)).alloc (.cells b t)) w.heap.size a s ∧ Blk ((w.alloc (.cells a s)).alloc (.cells b t)) (w.heap.size + 1) b t ∧ Below w.heap.size w ((w.alloc (.cells a s)).alloc (.cells b t)) := by
  have h := Blk.new (w.alloc (.cells a s)) b t
  rw [World.size_alloc] at h
  exact ⟨(Blk.new w a s).alloc _, h, (below_alloc1 w _).alloc (by rw [World.size_alloc]; omega) _⟩
/-- A row of three cells, stored cell by cell. -/
theorem blk3 {w : World} {g : Nat} {a b c : Value} {t : TypeId} (h : Blk w g #[a, b, c] t) (x y z : Value) : Blk (((w.setCell ⟨g, 0, none⟩ x).setCell ⟨g, 1, none⟩ y).setCell ⟨g, 2, none⟩ z) g #[x, y, z] t ∧ Only g w (((w.setCell ⟨g, 0, none⟩ x).setCell ⟨g, 1, none⟩ y).setCell ⟨g, 2, none⟩ z) :=
  ⟨((h.set_ 0 x).set_ 1 y).set_ 2 z, ((Only.setCell w g 0 x).trans (Only.setCell _ g 1 y)).trans (Only.setCell _ g 2 z)⟩
theorem blk4 {w : World} {g : Nat} {a b c d : Value} {t : TypeId} (h : Blk w g #[a, b, c, d] t) (x y z u : Value) : Blk ((((w.setCell ⟨g, 0, none⟩ x).setCell ⟨g, 1, none⟩ y).setCell ⟨g, 2, none⟩ z).setCell ⟨g, 3, none⟩ u) g #[x, y, z, u] t ∧ Only g w ((((w.setCell ⟨g, 0, none⟩ x).setCell ⟨g, 1, none⟩ y).setCell ⟨g, 2, none⟩ z).setCell ⟨g, 3, none⟩ u) :=
  ⟨(((h.set_ 0 x).set_ 1 y).set_ 2 z).set_ 3 u, (((Only.setCell w g 0 x).trans (Only.setCell _ g 1 y)).trans (Only.setCell _ g 2 z)).trans (Only.setCell _ g 3 u)⟩
/-- What the walk asks of a row of three, of four cells that it stores into. -/
theorem free3 {w : World} {g : Nat} {a b c : Value} {t : TypeId} (h : Blk w g #[a, b, c] t) : w.cell? ⟨g, 0, none⟩ = some a ∧ w.cell? ⟨g, 1, none⟩ = some b ∧ w.cell? ⟨g, 2, none⟩ = some c ∧ w.frozen? ⟨g, 0, none⟩ = false ∧ w.frozen? ⟨g, 1, none⟩ = false ∧ w.frozen? ⟨g, 2, none⟩ = false :=
  ⟨h.cellv rfl, h.cellv rfl, h.cellv rfl, h.free 0, h.free 1, h.free 2⟩
theorem free4 {w : World} {g : Nat} {a b c d : Value} {t : TypeId} (h : Blk w g #[a, b, c, d] t) : w.cell? ⟨g, 0, none⟩ = some a ∧ w.cell? ⟨g, 1, none⟩ = some b ∧ w.cell? ⟨g, 2, none⟩ = some c ∧ w.cell? ⟨g, 3, none⟩ = some d ∧ w.frozen? ⟨g, 0, none⟩ = false ∧ w.frozen? ⟨g, 1, none⟩ = false ∧ w.frozen? ⟨g, 2, none⟩ = false ∧ w.frozen? ⟨g, 3, none⟩ = false :=
  ⟨h.cellv rfl, h.cellv rfl, h.cellv rfl, h.cellv rfl, h.free 0, h.free 1, h.free 2, h.free 3⟩
/-- The value of the document's disk. -/
def dskV (M : D.Dk) (v : Value) : Value := .agg #[.int .i64 M.room, .int .i64 M.fuse, .bool M.dead, v]
def filV (f : D.Fl) : Value := .agg #[.string ⟨f.name.toArray⟩, .string ⟨f.b.toArray⟩, .int .i64 (f.sure : Int)]
def fil0 : D.Fl := ⟨[], [], 0⟩
set_option maxRecDepth 100000 in
set_option maxHeartbeats 2000000 in
theorem rfind_any (M : D.Dk) (v : Value) (w : World) (h : FRead w v M.files) (n : List UInt8) (hl : M.files.length ≤ 1000000) :
    Calls Try.prog 52 #[dskV M v, .string ⟨n.toArray⟩] w fun e w' => e = .returned (.tuple #[filV ((D.fnd D.Fl.name n M.files).getD fil0), .bool (D.fnd D.Fl.name n M.files).isSome]) ∧ Below w.heap.size w w' := by
  obtain ⟨A, c, rfl, hcap, h⟩ := fread_open h
  obtain ⟨room, fuse, dead, l⟩ := M
  dsimp only at h hcap hl ⊢
  unfold dskV
  dsimp only
  obtain ⟨B0, B1, hB0⟩ := two_new w #[.int .i64 room, .int .i64 fuse, .bool dead, .slice A l.length c] #[.string ⟨#[]⟩, .string ⟨#[]⟩, .int .i64 0] 76 81
  go_enter Try.func52, Try.ntmps52
  go_wp2
  go_loopw [11] (fun i wr => ∃ k : Nat, k ≤ l.length ∧ i = .int .i64 (k : Int) ∧ D.fnd D.Fl.name n l = D.fnd D.Fl.name n (l.drop k) ∧ Blk wr (w.heap.size + 1) #[.string ⟨#[]⟩, .string ⟨#[]⟩, .int .i64 0] 81 ∧ Below w.heap.size w wr) (fun i _ => l.length - (intOf i).toNat)
  case atStart => exact ⟨0, Nat.zero_le _, rfl, by rw [List.drop_zero], B1, hB0⟩
  case round =>
    clear B0 B1 hB0
    obtain ⟨k, hk, rfl, hfk, B1, hB⟩ := hrel
    have q0 : (0 : Int) ≤ (k : Int) := by omega
    by_cases hm : k < l.length
    · have d1 : decide ((k : Int) < (l.length : Int)) = true := decide_eq_true (by omega)
      have q1 : (k : Int) < (l.length : Int) := by omega
      obtain ⟨f, hf⟩ : ∃ f, l[k]? = some f := ⟨_, List.getElem?_eq_getElem hm⟩
      obtain ⟨g, o, rfl, hg, cR⟩ := fread_at (h.at_ (hB.mono (Nat.le_refl _))) hf
      have hdr : l.drop k = f :: l.drop (k + 1) := by
        rw [List.drop_eq_getElem_cons hm]
        rw [List.getElem?_eq_getElem hm] at hf
        injection hf with hf
        rw [hf]
      rw [hdr, D.fnd_cons] at hfk
      obtain ⟨nm, b, s⟩ := f
      have cR' : wr.rangeAt g (o + k * 3) [.string ⟨nm.toArray⟩, .string ⟨b.toArray⟩, .int .i64 (s : Int)] := cR
      have hsz : (Try.prog.info? 81).map (·.size) = some [Value.string ⟨nm.toArray⟩, .string ⟨b.toArray⟩, .int .i64 (s : Int)].length := size_file
      have hw1 : IntKind.i64.wrap ((k : Int) + 1) = ((k + 1 : Nat) : Int) := by rw [IntWalk.i64_in _ (by omega)]; omega
      dsimp only at hfk
      clear cR hf hdr
      by_cases he : nm = n
      · have e1 : (nm == n) = true := by simp [he]
        rw [e1, if_pos rfl] at hfk
        have Hfk := Lib.hid hfk
        clear hfk he
        have hsz2 : (Try.prog.info? 81).map (·.size) = some (#[Value.string ⟨nm.toArray⟩, .string ⟨b.toArray⟩, .int .i64 (s : Int)] : Array Value).size := size_file
        have B1' := B1.alloc (.cells #[Value.string ⟨nm.toArray⟩, .string ⟨b.toArray⟩, .int .i64 (s : Int)] 81)
        have hB' := hB.alloc hB.size (.cells #[Value.string ⟨nm.toArray⟩, .string ⟨b.toArray⟩, .int .i64 (s : Int)] 81)
        obtain ⟨c0, c1, c2, f0, f1, f2⟩ := free3 B1'
        obtain ⟨k0, k1, k2, g0, g1, g2⟩ := free3 B1
        go_wp2_with (refine wpList_load_mid rfl 81 (.tmp 13) rfl g (o + k * 3) rfl _ _ cR' Try.underlying81 rfl hsz ?_; go_frame)
        obtain ⟨b1, o1⟩ := blk3 B1' (.string ⟨nm.toArray⟩) (.string ⟨b.toArray⟩) (.int .i64 (s : Int))
        exact bodyPost_ret (v := .tuple #[.agg #[Value.string ⟨nm.toArray⟩, .string ⟨b.toArray⟩, .int .i64 (s : Int)], .bool true]) (results_blk2 (by rfl) _ b1 _ _ (by rfl) (by rfl) Try.underlying81 (by rfl) hsz2) rfl ⟨by rw [Hfk.out]; rfl, o1.below hB' (by omega)⟩
      · have e1 : (nm == n) = false := by simp [he]
        rw [e1] at hfk
        have B1' := B1.alloc (.cells #[Value.string ⟨nm.toArray⟩, .string ⟨b.toArray⟩, .int .i64 (s : Int)] 81)
        have hB' := hB.alloc hB.size (.cells #[Value.string ⟨nm.toArray⟩, .string ⟨b.toArray⟩, .int .i64 (s : Int)] 81)
        have Hfk := Lib.hid (show D.fnd D.Fl.name n l = D.fnd D.Fl.name n (l.drop (k + 1)) from hfk)
        clear hfk he
        go_wp2_with (first | (refine wpList_load_mid rfl 81 (.tmp 13) rfl g (o + k * 3) rfl _ _ cR' Try.underlying81 rfl hsz ?_; go_frame))
        go_roundw
        case rel => exact ⟨k + 1, by omega, by rfl, Hfk.out, B1', hB'⟩
        case measure => simp [intOf]; omega
    · have d1 : decide ((k : Int) < (l.length : Int)) = false := decide_eq_false (by omega)
      have d2 : decide (k < l.length) = false := decide_eq_false hm
      have hnone : D.fnd D.Fl.name n l = none := by rw [hfk, List.drop_of_length_le (by omega)]; rfl
      have Hn := Lib.hid hnone
      clear hfk hnone
      have hsz2 : (Try.prog.info? 81).map (·.size) = some (#[Value.string ⟨#[]⟩, .string ⟨#[]⟩, .int .i64 0] : Array Value).size := size_file
      obtain ⟨c0, c1, c2, f0, f1, f2⟩ := free3 B1
      go_wp2
      obtain ⟨b1, o1⟩ := blk3 B1 (.string ⟨#[]⟩) (.string ⟨#[]⟩) (.int .i64 0)
      exact bodyPost_ret (v := .tuple #[.agg #[Value.string ⟨#[]⟩, .string ⟨#[]⟩, .int .i64 0], .bool false]) (results_blk2 (by rfl) _ b1 _ _ (by rfl) (by rfl) Try.underlying81 (by rfl) hsz2) rfl ⟨by rw [Hn.out]; rfl, o1.below hB (by omega)⟩
end Go.Proofs.Ytknkbioalohofaa
