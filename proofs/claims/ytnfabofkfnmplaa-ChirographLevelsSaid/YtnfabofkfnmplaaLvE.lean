/- The walk of level.Check, at a state that is good; the closures. -/
import Derived.Test.YtnfabofkfnmplaaLvD
import Derived.Maps.OwnSet
import Derived.Maps.Ext
import Derived.Deep.Cut
namespace Go.Proofs.Ytnfabofkfnmplaa
open Go.RowKit Go.Maps Go.ChangeMaps Go.MapKept Go.WideMaps

namespace L
structure Good (s : St) : Prop where
  next : s.next ≤ 1073741824
  log : s.log ≤ 1073741824
  few : s.files.length ≤ 1000
  ok : ∀ f ∈ s.files, f.num < s.next ∧ f.lev < 4 ∧ f.size ≤ 1073741824 ∧ keyB f.first = true ∧ keyB f.last = true ∧ B f.last f.first = false
  nums : s.files.Pairwise fun a b => a.num ≠ b.num
  sorted : s.files.Pairwise S
end L
theorem lawN : Keyed Try.prog 3 := int_keyed Try.underlying3
def boolE : Value → Option (DataW Unit × List MemPlace)
  | .bool x => some (.lit (.bool x), [])
  | _ => none
theorem boolE_inv {v : Value} {x : Bool} {ps : List MemPlace} (h : boolE v = some (.lit (.bool x), ps)) : v = .bool x := by
  unfold boolE at h
  split at h
  · cases h; rfl
  · cases h
theorem zero_bool (w : World) : (zeroValue 4).run Try.prog w = .ok (.bool false) w := by kernel_rfl
theorem keyN (x : Nat) (h : x < 1073741824) : keyOf Try.prog 3 (.int .i64 (x : Int)) = some (.int .i64 (x : Int)) := by
  refine keyOf_int_mk Try.underlying3 ?_
  simp [Lit.wf, IntKind.min, IntKind.max, IntKind.signed, IntKind.bits]
  omega
/-- What has been seen: a map of numbers. -/
def SeenM (w : World) (b n : Nat) (D : DataW Unit) (p : Nat → Bool) : Prop := w.ownsMap Try.prog 3 boolE b n D ∧ ∀ x : Nat, x < 1073741824 → D.atKey (.int .i64 (x : Int)) (.lit (.bool false)) = .lit (.bool (p x))
theorem SeenM.look {w : World} {b n : Nat} {D : DataW Unit} {p : Nat → Bool} (h : SeenM w b n D p) {x : Nat} (hx : x < 1073741824) : (Instr.lookup 64 (.map (some b)) (.int .i64 (x : Int)) false).run Try.prog w = .ok (.bool (p x)) w := by
  obtain ⟨v, ps, hrun, hv⟩ := World.ownsMap.lookup h.1 lawN Try.underlying64 (zero_bool w) (zd := .lit (.bool false)) (zp := []) rfl (keyN x hx)
  rw [h.2 x hx] at hv
  rw [hrun, boolE_inv hv]
theorem SeenM.put {w w' : World} {b n : Nat} {D : DataW Unit} {p : Nat → Bool} (h : SeenM w b n D p) {x : Nat} (hx : x < 1073741824) {n' : Nat} (hown : w'.ownsMap Try.prog 3 boolE b n' (D.put (.int .i64 (x : Int)) (.lit (.bool true)))) :
    SeenM w' b n' (D.put (.int .i64 (x : Int)) (.lit (.bool true))) (fun y => p y || y == x) := by
  refine ⟨hown, fun y hy => ?_⟩
  by_cases e : y = x
  · subst e
    rw [atKey_put_same h.1.isMap (by first | exact trivial | simp [WideAt.IsKeyLit] | decide)]
    simp
  · rw [atKey_put_other (by intro q; injection q with _ q; omega), h.2 y hy]
    have : (y == x) = false := by rw [beq_eq_false_iff_ne]; exact e
    simp [this]
theorem grown_of_below {w w' : World} (h : Below w.heap.size w w') : w.grownBy w' none := ⟨h.os, h.tape, h.output, h.size, fun k hk _ => h.block k hk⟩
theorem turned_blk {w w' : World} {b g : Nat} {cs : Array Value} {t : TypeId} (h : Blk w g cs t) (ht : w.mapTurned w' b) : Blk w' g cs t := by
  obtain ⟨es, clock, es', clock', hb, rfl⟩ := ht
  refine (heap_setBlock_other hb _ ?_).trans h
  rintro rfl
  unfold Blk at h
  rw [hb] at h
  injection h with h
  cases h
theorem turned_below {B b : Nat} {a w w' : World} (h : Below B a w) (ht : w.mapTurned w' b) (hB : B ≤ b) : Below B a w' := by
  obtain ⟨es, clock, es', clock', hb, rfl⟩ := ht
  refine h.trans ⟨rfl, rfl, rfl, by simp [setBlock], fun i hi => heap_setBlock_other hb _ (by omega)⟩
theorem fread_at' {w : World} {l : List L.Fi} {g o n c k : Nat} {f : L.Fi} (h : FRead w (.slice (some ⟨g, o, none⟩) n c) l) (hk : l[k]? = some f) : w.rangeAt g (o + k * 5) (fiC f) := by
  obtain ⟨g', o', e, _, h⟩ := fread_at h hk
  injection e with e
  injection e with e1 e2
  subst e1 e2
  exact h
theorem any_succ (l : List L.Fi) (k : Nat) (f : L.Fi) (hf : l[k]? = some f) (y : Nat) : ((l.take (k + 1)).any fun g => g.num == y) = (((l.take k).any fun g => g.num == y) || y == f.num) := by
  obtain ⟨hk, rfl⟩ := List.getElem?_eq_some_iff.1 hf
  rw [List.take_succ_eq_append_getElem hk, List.any_append]
  simp only [List.any_cons, List.any_nil, Bool.or_false]
  congr 1
  by_cases e : l[k].num = y
  · rw [e]
  · rw [beq_eq_false_iff_ne.2 e, beq_eq_false_iff_ne.2 (fun q => e q.symm)]
set_option maxRecDepth 100000 in
set_option maxHeartbeats 8000000 in
theorem check_ok (s : L.St) (v : Value) (w : World) (h : FRead w v s.files) (hG : L.Good s) :
    Calls Try.prog 13 #[stV s v] w fun e w' => e = .returned (.int .i64 0) ∧ Below w.heap.size w w' := by
  obtain ⟨A, c, rfl, hcap, h⟩ := fread_open h
  have hmm := @run_makeMap Try.prog
  have KC := Lib.hid (fun x W => key_any x W)
  have OC := Lib.hid (fun a b W => order_any a b W)
  obtain ⟨nx, lg, l⟩ := s
  have g1 : nx ≤ 1073741824 := hG.next
  have g2 : lg ≤ 1073741824 := hG.log
  have g3 : l.length ≤ 1000 := hG.few
  have hG := Lib.hid hG
  dsimp only at h hcap
  unfold stV
  dsimp only
  have n1 : decide ((nx : Int) < 0) = false := decide_eq_false (by omega)
  have n2 : decide ((1073741824 : Int) < (nx : Int)) = false := decide_eq_false (by omega)
  have n3 : decide ((lg : Int) < 0) = false := decide_eq_false (by omega)
  have n4 : decide ((1073741824 : Int) < (lg : Int)) = false := decide_eq_false (by omega)
  have n5 : decide ((1000 : Int) < (l.length : Int)) = false := decide_eq_false (by omega)
  have hB0 := below_alloc1 w (.cells #[.int .i64 (nx : Int), .int .i64 (lg : Int), .slice A l.length c] 29)
  have B0 := Blk.new w #[.int .i64 (nx : Int), .int .i64 (lg : Int), .slice A l.length c] 29
  have hM0 : SeenM ((w.alloc (.cells #[.int .i64 (nx : Int), .int .i64 (lg : Int), .slice A l.length c] 29)).alloc (.map #[] 0)) (w.heap.size + 1) 0 (.map []) (fun x => (l.take 0).any fun f => f.num == x) := by
    have := World.ownsMap_made (w.alloc (.cells #[.int .i64 (nx : Int), .int .i64 (lg : Int), .slice A l.length c] 29)) Try.prog 3 boolE
    rw [World.size_alloc] at this
    exact ⟨this, fun x _ => rfl⟩
  have hB1 := hB0.alloc (by rw [World.size_alloc]; omega) (.map #[] 0)
  have B1 := B0.alloc (.map #[] 0)
  go_enter Try.func13, Try.ntmps13
  go_wp2
  clear n1 n2 n3 n4 n5 hmm
  go_loopw [33] (fun i wr => ∃ (k : Nat) (D : DataW Unit), k ≤ l.length ∧ i = .int .i64 (k : Int) ∧ SeenM wr (w.heap.size + 1) k D (fun x => (l.take k).any fun f => f.num == x) ∧ Blk wr w.heap.size #[.int .i64 (nx : Int), .int .i64 (lg : Int), .slice A l.length c] 29 ∧ Below w.heap.size w wr) (fun i _ => l.length - (intOf i).toNat)
  case atStart => exact ⟨0, _, Nat.zero_le _, rfl, hM0, B1, hB1⟩
  case round =>
    clear hB0 hB1 B0 B1 hM0
    obtain ⟨k, D, hk, rfl, hM, B1, hB⟩ := hrel
    have q0 : (0 : Int) ≤ (k : Int) := by omega
    by_cases hm : k < l.length
    · have d1 : decide ((k : Int) < (l.length : Int)) = true := decide_eq_true (by omega)
      have d1' : decide (k < l.length) = true := decide_eq_true hm
      have q1 : (k : Int) < (l.length : Int) := by omega
      obtain ⟨f, hf⟩ : ∃ f, l[k]? = some f := ⟨_, List.getElem?_eq_getElem hm⟩
      have hfm := List.mem_of_getElem? hf
      obtain ⟨o1, o2, o3, o4, o5, o6⟩ := hG.out.ok f hfm
      dsimp only at o1
      obtain ⟨ga, o, rfl, hg, cR⟩ := fread_at (h.at_ hB) hf
      have cR' : wr.rangeAt ga (o + k * 5) [.int .i64 (f.num : Int), .int .i64 (f.lev : Int), .int .i64 (f.size : Int), .string ⟨f.first.toArray⟩, .string ⟨f.last.toArray⟩] := cR
      have hsz : (Try.prog.info? 33).map (·.size) = some [Value.int .i64 (f.num : Int), .int .i64 (f.lev : Int), .int .i64 (f.size : Int), .string ⟨f.first.toArray⟩, .string ⟨f.last.toArray⟩].length := size_fi
      have hw1 : IntKind.i64.wrap ((k : Int) + 1) = ((k + 1 : Nat) : Int) := by rw [IntWalk.i64_in _ (by omega)]; omega
      have hn30 : f.num < 1073741824 := by omega
      have hM1 : SeenM (wr.alloc (.cells #[.int .i64 (f.num : Int), .int .i64 (f.lev : Int), .int .i64 (f.size : Int), .string ⟨f.first.toArray⟩, .string ⟨f.last.toArray⟩] 33)) (w.heap.size + 1) k D (fun x => (l.take k).any fun f => f.num == x) := ⟨hM.1.alloc _, hM.2⟩
      have hlook := hM1.look hn30
      have hnone : ((l.take k).any fun g => g.num == f.num) = false := by
        rw [List.any_eq_false]
        intro x hx
        obtain ⟨j, hj⟩ := List.getElem?_of_mem hx
        rw [List.getElem?_take] at hj
        split at hj
        · rename_i hjk
          obtain ⟨hj1, rfl⟩ := List.getElem?_eq_some_iff.1 hj
          obtain ⟨hk1, rfl⟩ := List.getElem?_eq_some_iff.1 hf
          have := (List.pairwise_iff_getElem.1 hG.out.nums) j k hj1 hk1 hjk
          simpa using this
        · cases hj
      simp only [hnone] at hlook
      have Hsu := Lib.hid (fun y => any_succ l k f hf y)
      have B2 := B1.alloc (.cells #[.int .i64 (f.num : Int), .int .i64 (f.lev : Int), .int .i64 (f.size : Int), .string ⟨f.first.toArray⟩, .string ⟨f.last.toArray⟩] 33)
      have X1 := Blk.new wr #[.int .i64 (f.num : Int), .int .i64 (f.lev : Int), .int .i64 (f.size : Int), .string ⟨f.first.toArray⟩, .string ⟨f.last.toArray⟩] 33
      have hB2 := hB.alloc hB.size (.cells #[.int .i64 (f.num : Int), .int .i64 (f.lev : Int), .int .i64 (f.size : Int), .string ⟨f.first.toArray⟩, .string ⟨f.last.toArray⟩] 33)
      have hk1 := Lib.hid (show k + 1 ≤ l.length by omega)
      have hS : ∀ (k' : Nat) (a : L.Fi), k = k' + 1 → l[k']? = some a → L.S a f ∧ L.ord a f = -1 := fun k' a hk' ha => by
        have hS : L.S a f := by
          obtain ⟨ha1, rfl⟩ := List.getElem?_eq_some_iff.1 ha
          obtain ⟨hf1, rfl⟩ := List.getElem?_eq_some_iff.1 hf
          exact (List.pairwise_iff_getElem.1 hG.out.sorted) k' k ha1 hf1 (by omega)
        exact ⟨hS, L.ord_neg hS (hG.out.ok a (List.mem_of_getElem? ha)).2.2.2.2.2⟩
      replace hS := Lib.hid hS
      clear hnone hg cR hfm
      go_upto_region 9 with (refine wpList_load_mid rfl 33 (.tmp 36) rfl ga (o + k * 5) rfl _ _ cR' Try.underlying33 rfl hsz ?_; go_frame)
      refine wp_world fun W1 hW1 => ?_
      rw [← hW1] at hM1 hlook B2 X1 hB2
      clear hW1 cR' hsz B1 hB hM d1 d1' q1
      have hsf : W1.heap.size = W1.heap.size := rfl
      have c20 := B2.cellv (i := 0) rfl
      obtain ⟨⟨y0, y1, y2, y3, y4⟩, -⟩ := free5 X1
      have hX := Lib.hid X1
      have hM := Lib.hid hM1
      clear X1 hM1 hsf
      have b1 : decide ((f.num : Int) < 0) = false := decide_eq_false (by omega)
      have b2 : decide ((nx : Int) ≤ (f.num : Int)) = false := decide_eq_false (by omega)
      have b2' : decide (nx ≤ f.num) = false := decide_eq_false (by omega)
      have b3 : decide ((f.lev : Int) < 0) = false := decide_eq_false (by omega)
      have b4 : decide ((4 : Int) ≤ (f.lev : Int)) = false := decide_eq_false (by omega)
      have b5 : decide ((f.size : Int) < 0) = false := decide_eq_false (by omega)
      have b6 : decide ((1073741824 : Int) < (f.size : Int)) = false := decide_eq_false (by omega)
      go_upto_region 11 with (fail)
      clear b1 b2 b2' b3 b4 b5 b6
      have s1 := str_gtr f.first f.last
      simp only [o6] at s1
      have K1 := KC.out f.first
      have K2 := KC.out f.last
      rw [o4] at K1
      rw [o5] at K2
      have K1 := Lib.hid K1
      have K2 := Lib.hid K2
      clear o1 o2 o3 o4 o5 o6
      go_upto_region 14 with (first | (go_at_call 26; first | (refine (K1.out _).mono ?_; rintro e w9 ⟨rfl, rfl⟩) | (refine (K2.out _).mono ?_; rintro e w9 ⟨rfl, rfl⟩)) | (at_mapUpdate; go_loud (refine wpList_mapUpdate_in _ rfl _ _ _ 64 rfl 3 4 lawN Try.underlying64 _ (w.heap.size + 1) _ _ rfl hM.out.1 (by unfold maxLen; omega) _ _ _ rfl rfl (keyN f.num hn30) _ [] rfl ?_; intro w5 hown5 ht5; have X5 := turned_blk hX.out ht5; have B5 := turned_blk B2 ht5; have hB5 := turned_below hB2 ht5 (by omega); have hM5 := hM.out.put hn30 hown5; have hM2 : SeenM w5 (w.heap.size + 1) (k + 1) _ (fun x => (l.take (k + 1)).any fun f => f.num == x) := ⟨hM5.1, fun y hy => (hM5.2 y hy).trans (by (dsimp only; rw [Hsu.out y]))⟩; obtain ⟨⟨x0, x1, x2, x3, x4⟩, -⟩ := free5 X5; have c52 := B5.cellv (i := 2) rfl)))
      clear s1 K1 K2 hlook y0 y1 y2 y3 y4 c20
      by_cases hk0 : k = 0
      · have d5 : ((k : Int) == 0) = true := by rw [hk0]; rfl
        clear hk0
        go_wp2
        go_roundw
        case rel => exact ⟨k + 1, _, hk1.out, rfl, hM2, B5, hB5⟩
        case measure => simp [intOf]; have := hk1.out; omega
      · have d5 : ((k : Int) == 0) = false := by rw [beq_eq_false_iff_ne]; omega
        obtain ⟨k', hk'⟩ : ∃ k', k = k' + 1 := ⟨k - 1, by omega⟩
        have hkl := hk1.out
        have p0 : (0 : Int) ≤ (k' : Int) := by omega
        have p1 : (k' : Int) < (l.length : Int) := by omega
        have hwm : IntKind.i64.wrap ((k : Int) - 1) = (k' : Int) := by rw [IntWalk.i64_in _ (by omega)]; omega
        obtain ⟨a, ha⟩ : ∃ a, l[k']? = some a := ⟨_, List.getElem?_eq_getElem (by omega)⟩
        obtain ⟨hS1, hord⟩ := hS.out k' a hk' ha
        have O1 := OC.out a f
        simp only [hord] at O1
        unfold fiV at O1
        have O1 := Lib.hid O1
        have cA5 : w5.rangeAt ga (o + k' * 5) [.int .i64 (a.num : Int), .int .i64 (a.lev : Int), .int .i64 (a.size : Int), .string ⟨a.first.toArray⟩, .string ⟨a.last.toArray⟩] := fread_at' (h.at_ hB5) ha
        have hsa : (Try.prog.info? 33).map (·.size) = some [Value.int .i64 (a.num : Int), .int .i64 (a.lev : Int), .int .i64 (a.size : Int), .string ⟨a.first.toArray⟩, .string ⟨a.last.toArray⟩].length := size_fi
        have X6 := X5.alloc (.cells #[.int .i64 (a.num : Int), .int .i64 (a.lev : Int), .int .i64 (a.size : Int), .string ⟨a.first.toArray⟩, .string ⟨a.last.toArray⟩] 33)
        have Y6 := Blk.new w5 #[.int .i64 (a.num : Int), .int .i64 (a.lev : Int), .int .i64 (a.size : Int), .string ⟨a.first.toArray⟩, .string ⟨a.last.toArray⟩] 33
        have B6 := B5.alloc (.cells #[.int .i64 (a.num : Int), .int .i64 (a.lev : Int), .int .i64 (a.size : Int), .string ⟨a.first.toArray⟩, .string ⟨a.last.toArray⟩] 33)
        have hB6 := hB5.alloc hB5.size (.cells #[.int .i64 (a.num : Int), .int .i64 (a.lev : Int), .int .i64 (a.size : Int), .string ⟨a.first.toArray⟩, .string ⟨a.last.toArray⟩] 33)
        have hM6 : SeenM (w5.alloc (.cells #[.int .i64 (a.num : Int), .int .i64 (a.lev : Int), .int .i64 (a.size : Int), .string ⟨a.first.toArray⟩, .string ⟨a.last.toArray⟩] 33)) (w.heap.size + 1) (k + 1) _ (fun x => (l.take (k + 1)).any fun f => f.num == x) := ⟨hM2.1.alloc _, hM2.2⟩
        clear hord hk0 hk' ha hM2 hM hX X5 B5 hB5 B2 hB2 hkl
        go_upto_region 16 with (refine wpList_load_mid rfl 33 (.tmp 100) rfl ga (o + k' * 5) rfl _ _ cA5 Try.underlying33 rfl hsa ?_; go_frame)
        refine wp_world fun W6 hW6 => ?_
        rw [← hW6] at X6 Y6 B6 hB6 hM6
        clear hW6 cA5 hsa x0 x1 x2 x3 x4 c52 hown5 ht5 hwm p0 p1 d5 hM5
        obtain ⟨⟨x0, x1, x2, x3, x4⟩, -⟩ := free5 X6
        obtain ⟨⟨y0, y1, y2, y3, y4⟩, -⟩ := free5 Y6
        rcases hS1 with hS2 | ⟨hS1, hS2 | hS2⟩
        · have t1 : ((a.lev : Int) == (f.lev : Int)) = false := by rw [beq_eq_false_iff_ne]; omega
          have t1' : (a.lev == f.lev) = false := by rw [beq_eq_false_iff_ne]; omega
          clear hS2
          go_wp2_with (go_at_call 18; refine (O1.out _).mono ?_; rintro e w7 ⟨rfl, s7⟩; obtain ⟨⟨z0, z1, z2, z3, z4⟩, -⟩ := free5 (X6.at_ s7); obtain ⟨⟨u0, u1, u2, u3, u4⟩, -⟩ := free5 (Y6.at_ s7))
          go_roundw
          case rel => exact ⟨k + 1, _, hk1.out, rfl, ⟨hM6.1.kept (grown_of_below s7) (by simp), hM6.2⟩, B6.at_ s7, hB6.trans (s7.mono hB6.size)⟩
          case measure => simp [intOf]; have := hk1.out; omega
        · have t1 : ((a.lev : Int) == (f.lev : Int)) = true := by rw [beq_iff_eq]; omega
          have t1' : (a.lev == f.lev) = true := by rw [beq_iff_eq]; omega
          have t2 : decide ((0 : Int) < (f.lev : Int)) = false := decide_eq_false (by omega)
          have t2' : decide (0 < f.lev) = false := decide_eq_false (by omega)
          clear hS1 hS2
          go_wp2_with (go_at_call 18; refine (O1.out _).mono ?_; rintro e w7 ⟨rfl, s7⟩; obtain ⟨⟨z0, z1, z2, z3, z4⟩, -⟩ := free5 (X6.at_ s7); obtain ⟨⟨u0, u1, u2, u3, u4⟩, -⟩ := free5 (Y6.at_ s7))
          go_roundw
          case rel => exact ⟨k + 1, _, hk1.out, rfl, ⟨hM6.1.kept (grown_of_below s7) (by simp), hM6.2⟩, B6.at_ s7, hB6.trans (s7.mono hB6.size)⟩
          case measure => simp [intOf]; have := hk1.out; omega
        · have t1 : ((a.lev : Int) == (f.lev : Int)) = true := by rw [beq_iff_eq]; omega
          have t1' : (a.lev == f.lev) = true := by rw [beq_iff_eq]; omega
          have t2 : decide ((0 : Int) < (f.lev : Int)) = true := decide_eq_true (by omega)
          have t2' : decide (0 < f.lev) = true := decide_eq_true (by omega)
          have s2 := str_geq a.last f.first
          simp only [hS2.2] at s2
          clear hS1 hS2
          go_wp2_with (go_at_call 18; refine (O1.out _).mono ?_; rintro e w7 ⟨rfl, s7⟩; obtain ⟨⟨z0, z1, z2, z3, z4⟩, -⟩ := free5 (X6.at_ s7); obtain ⟨⟨u0, u1, u2, u3, u4⟩, -⟩ := free5 (Y6.at_ s7))
          go_roundw
          case rel => exact ⟨k + 1, _, hk1.out, rfl, ⟨hM6.1.kept (grown_of_below s7) (by simp), hM6.2⟩, B6.at_ s7, hB6.trans (s7.mono hB6.size)⟩
          case measure => simp [intOf]; have := hk1.out; omega
    · have d1 : decide ((k : Int) < (l.length : Int)) = false := decide_eq_false (by omega)
      have d1' : decide (k < l.length) = false := decide_eq_false hm
      go_wp2
      go_ret
      exact ⟨rfl, hB⟩
end Go.Proofs.Ytnfabofkfnmplaa
