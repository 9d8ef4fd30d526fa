/- The walk of limbs: a product of numbers in places. -/
import Derived.Test.YtgjmnhbkdccgpaaWTab
import Derived.Test.YtgjmnhbkdccgpaaKit6
namespace Go.Proofs.Ytgjmnhbkdccgpaa
open Go.RowKit

def u64A (l : List Nat) : Array Value := (l.map u64V).toArray
theorem u64A_size (l : List Nat) : (u64A l).size = l.length := by simp [u64A]
theorem u64A_get (l : List Nat) (j : Nat) (h : j < l.length) : (u64A l)[j]? = some (.int .u64 ((l.getD j 0 : Nat) : Int)) := by
  simp [u64A, u64V, List.getElem?_eq_getElem h, List.getD_eq_getElem?_getD]
theorem u64A_set (l : List Nat) (j n : Nat) : (u64A l).setIfInBounds j (u64V n) = u64A (l.set j n) := by simp [u64A, List.map_set]
theorem made_u64 (n : Nat) : madeCells #[.int .u64 0] n = u64A (List.replicate n 0) := by
  apply Array.ext'
  rw [toList_madeCells_one]
  simp [u64A, u64V]
theorem make_u64 (t : TypeId) (ht : Try.prog.underlying t = some (.slice 93)) (n : Nat) (x : Int) (hx : x = (n : Int)) (hn : n ≤ 1000000) (w : World) : (Instr.makeSlice t (.int .i64 x) (.int .i64 x)).run Try.prog w = .ok (.slice (some ⟨w.heap.size, 0, none⟩) n n) (w.alloc (.cells (u64A (List.replicate n 0)) 93)) := by
  obtain ⟨i5, hi, hz0, hz1, hz2⟩ := info_parts info_u64.1
  subst hx
  have hr := run_make (P := Try.prog) w t 93 i5 (.int .u64 0) ht hi hz0 .i64 .i64 (n : Int) (n : Int) (by omega) (by omega) (by rw [hz2]; omega) (by omega)
  rw [Int.toNat_natCast, hz1, Nat.mul_one] at hr
  rw [hr]
  have : (Value.int .u64 0).cells = #[.int .u64 0] := rfl
  rw [this, made_u64]
/-- Such a block as a slice that reads so. -/
theorem blk_sread {w : World} {g : Nat} {l : List Nat} {n c : Nat} (h : Blk w g (u64A l) 93) (hn : l.length = n) (hc : n ≤ c) : SRead w (.slice (some ⟨g, 0, none⟩) n c) (l.map u64V) := by
  subst hn
  refine ⟨_, c, by rw [List.length_map], by rw [List.length_map]; exact hc, .inr ⟨g, 0, rfl, h.lt, fun j u hj => ?_⟩⟩
  rw [Nat.zero_add, h.cell]
  rw [← hj]; simp [u64A]
namespace T
theorem mulTo_length (a b : List Nat) (i : Nat) (out : List Nat) : ∀ j, (mulTo a b i out j).length = out.length
  | 0 => rfl
  | j + 1 => by rw [mulTo, List.length_set, mulTo_length a b i out j]
theorem rowsTo_length (a b : List Nat) : ∀ i, (rowsTo a b i).length = a.length + b.length + 1
  | 0 => by simp [rowsTo]
  | i + 1 => by rw [rowsTo, mulTo_length, rowsTo_length a b i]
theorem carryTo_length (out : List Nat) : ∀ k, (carryTo out k).length = out.length
  | 0 => rfl
  | k + 1 => by rw [carryTo, carry2, List.length_set, carry1, List.length_set, carryTo_length out k]
theorem limbs_length (a b : List Nat) : (limbs a b).length = a.length + b.length + 1 := by rw [limbs, carryTo_length, rowsTo_length]
def Small (l : List Nat) : Prop := ∀ j, l.getD j 0 < M64
theorem Small.set {l : List Nat} (h : Small l) (i v : Nat) (hv : v < M64) : Small (l.set i v) := by
  intro j
  rw [List.getD_eq_getElem?_getD, List.getElem?_set]
  by_cases e : i = j
  · rw [if_pos e]
    by_cases hl : i < l.length
    · rw [if_pos hl]; exact hv
    · rw [if_neg hl]; decide
  · rw [if_neg e, ← List.getD_eq_getElem?_getD]; exact h j
theorem small_mul (a b : List Nat) (i : Nat) (out : List Nat) (h : Small out) : ∀ j, Small (mulTo a b i out j)
  | 0 => h
  | j + 1 => (small_mul a b i out h j).set _ _ (Nat.mod_lt _ (by decide))
theorem small_rows (a b : List Nat) : ∀ i, Small (rowsTo a b i)
  | 0 => fun j => by
    unfold rowsTo
    rw [List.getD_eq_getElem?_getD, List.getElem?_replicate]
    split <;> decide
  | i + 1 => small_mul a b i _ (small_rows a b i) _
theorem small_carry1 {o : List Nat} (h : Small o) (k : Nat) : Small (carry1 o k) := h.set _ _ (Nat.mod_lt _ (by decide))
theorem small_carry2 {o : List Nat} (h : Small o) (k : Nat) : Small (carry2 o k) := h.set _ _ (Nat.lt_of_le_of_lt (Nat.mod_le _ _) (h k))
theorem small_carry {out : List Nat} (h : Small out) : ∀ k, Small (carryTo out k)
  | 0 => h
  | k + 1 => small_carry2 (small_carry1 (small_carry h k) k) k
theorem small_limbs (a b : List Nat) : Small (limbs a b) := small_carry (small_rows a b _) _
end T
theorem wrap_u64_nat (n : Nat) : IntKind.u64.wrap (n : Int) = ((n % T.M64 : Nat) : Int) := by
  rw [IntKind.wrap_u64]; unfold T.M64; omega
set_option maxRecDepth 100000 in
set_option maxHeartbeats 4000000 in
theorem limbs_any (a b : List Nat) (va vb : Value) (w : World) (ha : SRead w va (a.map u64V)) (hb : SRead w vb (b.map u64V)) (hla : a.length ≤ 1000) (hlb : b.length ≤ 1000) :
    Calls Try.prog 99 #[va, vb] w fun e w' => e = .returned (.slice (some ⟨w.heap.size, 0, none⟩) (a.length + b.length + 1) (a.length + b.length + 1)) ∧ Blk w' w.heap.size (u64A (T.limbs a b)) 93 ∧ Below w.heap.size w w' := by
  obtain ⟨A, cA, rfl, hcA, hA⟩ := ha
  obtain ⟨B, cB, rfl, hcB, hB⟩ := hb
  rw [List.length_map] at hcA hcB ⊢
  rw [List.length_map]
  have hmk := make_u64 99 Try.underlying99 (a.length + b.length + 1) ((a.length : Int) + (b.length : Int) + 1) (by omega) (by omega)
  have b0 := Blk.new w (u64A (T.rowsTo a b 0)) 93
  have h0 : u64A (List.replicate (a.length + b.length + 1) 0) = u64A (T.rowsTo a b 0) := rfl
  have hbel := below_alloc1 w (.cells (u64A (T.rowsTo a b 0)) 93)
  rw [h0] at hmk
  have Hrl := Lib.hid (T.rowsTo_length a b)
  obtain ⟨n, hn⟩ : ∃ n, n = a.length := ⟨_, rfl⟩
  obtain ⟨m, hm⟩ : ∃ m, m = b.length := ⟨_, rfl⟩
  rw [← hn] at hla hmk hcA ⊢
  rw [← hm] at hlb hmk hcB ⊢
  have Hn := Lib.hid hn
  have Hm := Lib.hid hm
  obtain ⟨N, hN⟩ : ∃ N, N = n + m + 1 := ⟨_, rfl⟩
  have HN := Lib.hid hN
  rw [← hN] at hmk ⊢
  clear hn hm hN h0
  go_enter Try.func99, Try.ntmps99
  go_wp2
  generalize w.alloc (.cells (u64A (T.rowsTo a b 0)) 93) = w0 at *
  clear hmk
  go_loopw [18] (fun v wr => ∃ i : Nat, i ≤ n ∧ v = .int .i64 (i : Int) ∧ Blk wr w.heap.size (u64A (T.rowsTo a b i)) 93 ∧ Below w.heap.size w wr) (fun v _ => n - (intOf v).toNat)
  case atStart => exact ⟨0, by omega, rfl, b0, hbel⟩
  case round =>
    clear b0 hbel
    obtain ⟨i, hin, rfl, b0, hbel⟩ := hrel
    by_cases hlt : i < n
    · have d1 : decide ((i : Int) < (n : Int)) = true := by simp; omega
      have d1' : decide (i < n) = true := by simpa using hlt
      have hia : i < a.length := by have := Hn.out; omega
      obtain ⟨ga, oa, rfl, hga, ca⟩ := hA.resolve_left (by intro e; have := congrArg List.length e; simp at this; rw [this] at hia; simp at hia)
      have ka0 := ca i _ (by rw [List.getElem?_map, List.getElem?_eq_getElem hia]; rfl)
      have Hrow := Lib.hid (show T.rowsTo a b (i + 1) = T.mulTo a b i (T.rowsTo a b i) b.length from rfl)
      have hlen := Hrl.out i
      have hsm := T.small_rows a b i
      have hget : a[i] = a.getD i 0 := by rw [List.getD_eq_getElem?_getD, List.getElem?_eq_getElem hia]; rfl
      rw [hget] at ka0
      unfold u64V at ka0
      generalize hR : T.rowsTo a b i = R at *
      rw [show R = T.mulTo a b i R 0 from rfl] at b0
      have Hsm := Lib.hid (T.small_mul a b i R hsm)
      have Hml := Lib.hid (T.mulTo_length a b i R)
      have i0 : (0 : Int) ≤ (i : Int) := by omega
      have i1 : (i : Int) < (n : Int) := by omega
      have Hlen := Lib.hid hlen
      clear hR hA ca hget hsm hlen
      go_wp2
      go_loopw [23] (fun v wz => ∃ j : Nat, j ≤ m ∧ v = .int .i64 (j : Int) ∧ Blk wz w.heap.size (u64A (T.mulTo a b i R j)) 93 ∧ Below w.heap.size w wz) (fun v _ => m - (intOf v).toNat)
      case atStart => exact ⟨0, by omega, rfl, b0, hbel⟩
      case round =>
        clear b0 hbel
        obtain ⟨j, hjm, rfl, b0, hbel⟩ := hrel
        by_cases hlj : j < m
        · have d2 : decide ((j : Int) < (m : Int)) = true := by simp; omega
          have d2' : decide (j < m) = true := by simpa using hlj
          have hjb : j < b.length := by have := Hm.out; omega
          obtain ⟨gb, ob, rfl, hgb, cb⟩ := hB.resolve_left (by intro e; have := congrArg List.length e; simp at this; rw [this] at hjb; simp at hjb)
          have kb0 := cb j _ (by rw [List.getElem?_map, List.getElem?_eq_getElem hjb]; rfl)
          have hget : b[j] = b.getD j 0 := by rw [List.getD_eq_getElem?_getD, List.getElem?_eq_getElem hjb]; rfl
          rw [hget] at kb0
          unfold u64V at kb0
          have ka : wr.cell? ⟨ga, oa + i, none⟩ = _ := (hbel.cell (p := ⟨ga, oa + i, none⟩) hga).trans ka0
          have kb : wr.cell? ⟨gb, ob + j, none⟩ = _ := (hbel.cell (p := ⟨gb, ob + j, none⟩) hgb).trans kb0
          have hL : (T.mulTo a b i R j).length = N := by rw [Hml.out, Hlen.out, ← Hn.out, ← Hm.out, HN.out]
          have hij : i + j < N := by rw [HN.out]; omega
          have ko := b0.cellv (u64A_get _ (i + j) (by rw [hL]; exact hij))
          have fo := b0.free (i + j)
          have hs := b0.set_ (i + j) (u64V (((T.mulTo a b i R j).getD (i + j) 0 + a.getD i 0 * b.getD j 0 % T.M64) % T.M64))
          rw [u64A_set] at hs
          have hnext : T.mulTo a b i R (j + 1) = (T.mulTo a b i R j).set (i + j) (((T.mulTo a b i R j).getD (i + j) 0 + a.getD i 0 * b.getD j 0 % T.M64) % T.M64) := rfl
          rw [← hnext] at hs
          unfold u64V at hs
          have w1 : IntKind.u64.wrap ((a.getD i 0 : Int) * (b.getD j 0 : Int)) = ((a.getD i 0 * b.getD j 0 % T.M64 : Nat) : Int) := by rw [← wrap_u64_nat]; simp
          have w2 : IntKind.u64.wrap (((T.mulTo a b i R j).getD (i + j) 0 : Int) + ((a.getD i 0 * b.getD j 0 % T.M64 : Nat) : Int)) = ((((T.mulTo a b i R j).getD (i + j) 0 + a.getD i 0 * b.getD j 0 % T.M64) % T.M64 : Nat) : Int) := by rw [← wrap_u64_nat]; congr 1
          generalize ((T.mulTo a b i R j).getD (i + j) 0 + a.getD i 0 * b.getD j 0 % T.M64) % T.M64 = z2 at *
          generalize a.getD i 0 * b.getD j 0 % T.M64 = z1 at *
          generalize (T.mulTo a b i R j).getD (i + j) 0 = z0 at *
          generalize a.getD i 0 = x at *
          generalize b.getD j 0 = y at *
          have wi : IntKind.i64.wrap ((i : Int) + (j : Int)) = ((i + j : Nat) : Int) := by rw [IntWalk.i64_in _ (by omega)]; omega
          have j0 : (0 : Int) ≤ (j : Int) := by omega
          have j1 : (j : Int) < (m : Int) := by omega
          have q0 : (0 : Int) ≤ ((i + j : Nat) : Int) := by omega
          have q1 : ((i + j : Nat) : Int) < (N : Int) := by omega
          have hbel2 := hbel.drew.setCell (p := ⟨w.heap.size, i + j, none⟩) (Nat.le_refl _) (.int .u64 (z2 : Int))
          have hs2 : Blk (wr.drew.setCell ⟨w.heap.size, i + j, none⟩ (.int .u64 (z2 : Int))) w.heap.size (u64A (T.mulTo a b i R (j + 1))) 93 := hs
          generalize i + j = q at *
          clear kb0 cb hget hnext hs
          go_wp2
          go_still_tail 17, (by kernel_rfl)
          change wpList _ _ _ _ _ wr.drew
          have ko2 : wr.drew.cell? ⟨w.heap.size, q, none⟩ = _ := ko
          have fo2 : wr.drew.frozen? ⟨w.heap.size, q, none⟩ = false := fo
          clear ka kb ko fo w1 w2 wi j0 j1 q0 q1 b0 hbel
          generalize wr.drew = w3 at *
          go_wp2
          go_roundw
          case rel => exact ⟨j + 1, by omega, by go_num, hs2, hbel2⟩
          case measure => simp [intOf]; omega
        · obtain rfl : j = m := by omega
          rw [Hm.out, ← Hrow.out] at b0
          go_wp2
          go_roundw
          case rel => exact ⟨i + 1, by omega, by go_num, b0, hbel⟩
          case measure => simp [intOf]; omega
    · obtain rfl : i = n := by omega
      go_wp2
      have hfin : T.limbs a b = T.carryTo (T.rowsTo a b a.length) (a.length + b.length) := rfl
      rw [← Hn.out, ← Hm.out] at hfin
      have Hfin := Lib.hid hfin
      have hsm := T.small_rows a b i
      have hRl := Hrl.out i
      rw [← Hn.out, ← Hm.out, ← HN.out] at hRl
      have HRl := Lib.hid hRl
      clear hfin hA hB hlt hRl
      generalize T.rowsTo a b i = R at *
      rw [show R = T.carryTo R 0 from rfl] at b0
      have Hsc := Lib.hid (fun k => T.small_carry hsm k)
      have Hcl := Lib.hid (T.carryTo_length R)
      clear hsm
      go_loopw [8] (fun v wz => ∃ k : Nat, k ≤ i + m ∧ v = .int .i64 (k : Int) ∧ Blk wz w.heap.size (u64A (T.carryTo R k)) 93 ∧ Below w.heap.size w wz) (fun v _ => N - (intOf v).toNat)
      case atStart => exact ⟨0, by omega, rfl, b0, hbel⟩
      case round =>
        clear b0 hbel
        obtain ⟨k, hk, rfl, b0, hbel⟩ := hrel
        have hNe : N = i + m + 1 := HN.out
        by_cases hlt : k < i + m
        · have d1 : decide ((k : Int) + 1 < (N : Int)) = true := by simp; omega
          have d1' : decide (k + 1 < N) = true := by simp; omega
          have hL : (T.carryTo R k).length = N := by rw [Hcl.out, HRl.out]
          have k0 := b0.cellv (u64A_get _ k (by omega))
          have k1 := b0.cellv (u64A_get _ (k + 1) (by omega))
          have f1 := b0.free (k + 1)
          have hb1 := b0.drew.set_ (k + 1) (u64V (((T.carryTo R k).getD (k + 1) 0 + (T.carryTo R k).getD k 0 / 1048576) % T.M64))
          rw [u64A_set] at hb1
          have hn1 : T.carry1 (T.carryTo R k) k = (T.carryTo R k).set (k + 1) (((T.carryTo R k).getD (k + 1) 0 + (T.carryTo R k).getD k 0 / 1048576) % T.M64) := rfl
          rw [← hn1] at hb1
          have hsame : (T.carry1 (T.carryTo R k) k).getD k 0 = (T.carryTo R k).getD k 0 := by
            rw [hn1, List.getD_eq_getElem?_getD, List.getElem?_set_ne (by omega), ← List.getD_eq_getElem?_getD]
          have hl1 : (T.carry1 (T.carryTo R k) k).length = N := by rw [hn1, List.length_set, hL]
          have ck := hb1.cellv (u64A_get _ k (by omega))
          have fk := hb1.free k
          have hb2 := hb1.set_ k (u64V ((T.carry1 (T.carryTo R k) k).getD k 0 % 1048576))
          rw [u64A_set] at hb2
          have hn2 : T.carryTo R (k + 1) = (T.carry1 (T.carryTo R k) k).set k ((T.carry1 (T.carryTo R k) k).getD k 0 % 1048576) := rfl
          rw [← hn2, hsame] at hb2
          rw [hsame] at ck
          have hlo := u64_low ((T.carryTo R k).getD k 0) (Hsc.out k k)
          have hq : (((T.carryTo R k).getD k 0 : Nat) : Int) / 1048576 = (((T.carryTo R k).getD k 0 / 1048576 : Nat) : Int) := by omega
          have w2 : IntKind.u64.wrap ((((T.carryTo R k).getD (k + 1) 0 : Nat) : Int) + (((T.carryTo R k).getD k 0 / 1048576 : Nat) : Int)) = ((((T.carryTo R k).getD (k + 1) 0 + (T.carryTo R k).getD k 0 / 1048576) % T.M64 : Nat) : Int) := by rw [← wrap_u64_nat]; congr 1
          have z0 := Int.natCast_nonneg ((T.carryTo R k).getD k 0)
          unfold u64V at hb1 hb2 ck fk
          have hbel1 := hbel.drew.setCell (p := ⟨w.heap.size, k + 1, none⟩) (Nat.le_refl _) (.int .u64 ((((T.carryTo R k).getD (k + 1) 0 + (T.carryTo R k).getD k 0 / 1048576) % T.M64 : Nat) : Int))
          have hbel2 := hbel1.setCell (p := ⟨w.heap.size, k, none⟩) (Nat.le_refl _) (.int .u64 (((T.carryTo R k).getD k 0 % 1048576 : Nat) : Int))
          generalize ((T.carryTo R k).getD (k + 1) 0 + (T.carryTo R k).getD k 0 / 1048576) % T.M64 = y2 at *
          generalize (T.carryTo R k).getD k 0 / 1048576 = y1 at *
          generalize (T.carryTo R k).getD k 0 % 1048576 = y3 at *
          generalize (T.carryTo R k).getD (k + 1) 0 = y4 at *
          generalize (T.carryTo R k).getD k 0 = y0 at *
          have wi : IntKind.i64.wrap ((k : Int) + 1) = ((k + 1 : Nat) : Int) := by rw [IntWalk.i64_in _ (by omega)]; omega
          have i0 : (0 : Int) ≤ (k : Int) := by omega
          have i1 : (k : Int) < (N : Int) := by omega
          have q0 : (0 : Int) ≤ ((k + 1 : Nat) : Int) := by omega
          have q1 : ((k + 1 : Nat) : Int) < (N : Int) := by omega
          have Hne := Lib.hid hNe
          have hkb : (k : Int) ≤ 2001 := by omega
          clear hn1 hn2 hsame hl1 hL hb1 hbel1 hNe d1'
          have hkk2 : (k : Int) + 1 = ((k + 1 : Nat) : Int) := by omega
          have Hk2 := Lib.hid hkk2
          generalize hk2 : k + 1 = k2 at *
          have Hk3 := Lib.hid hk2
          clear hk2 hkk2
          go_wp2
          go_still_tail 12, (by kernel_rfl)
          change wpList _ _ _ _ _ wr.drew
          have k12 : wr.drew.cell? ⟨w.heap.size, k2, none⟩ = _ := k1
          have f12 : wr.drew.frozen? ⟨w.heap.size, k2, none⟩ = false := f1
          clear k0 k1 f1 w2 wi q0 q1 b0 hbel
          generalize wr.drew = w3 at *
          go_wp2
          go_roundw
          case rel => exact ⟨k2, by have := Hk3.out; omega, by rw [← Hk2.out], hb2, hbel2⟩
          case measure => have := Hne.out; simp [intOf]; omega
        · obtain rfl : k = i + m := by omega
          have d1 : decide (((i + m : Nat) : Int) + 1 < (N : Int)) = false := by simp; omega
          have d1' : decide (i + m + 1 < N) = false := by simp; omega
          rw [← Hfin.out] at b0
          have hib : ((i + m : Nat) : Int) ≤ 2000 := by omega
          clear hNe hlt
          generalize i + m = q at *
          go_wp2
          go_ret
          exact ⟨rfl, b0, hbel⟩
end Go.Proofs.Ytgjmnhbkdccgpaa
