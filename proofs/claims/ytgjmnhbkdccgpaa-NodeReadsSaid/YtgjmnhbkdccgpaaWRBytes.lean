/- The walk of the document's bytes of a tag and texts. -/
import Derived.Test.YtgjmnhbkdccgpaaWJoin
namespace Go.Proofs.Ytgjmnhbkdccgpaa
open Go.RowKit

theorem len4_cells (n : Nat) : (#[.int .u8 ((n : Int) / 16777216 % 256), .int .u8 ((n : Int) / 65536 % 256), .int .u8 ((n : Int) / 256 % 256), .int .u8 ((n : Int) % 256)] : Array Value) = ((J.len4 n).map byteV).toArray := by
  simp only [J.len4, List.map_cons, List.map_nil, byteV, UInt8.toNat_ofNat']
  congr 1
set_option maxRecDepth 100000 in
set_option maxHeartbeats 1000000 in
theorem rbytes_any (tag : UInt8) (ts : List (List UInt8)) (v : Value) (w : World) (hS : SRead w v (ts.map strV)) (hl : (J.joinB tag ts).length ≤ 140737488355000) :
    Calls Try.prog 26 #[.int .u8 (tag.toNat : Int), v] w fun e w' => e = .returned (.string ⟨(J.joinB tag ts).toArray⟩) ∧ Below w.heap.size w w' := by
  obtain ⟨A, c, rfl, hcap, hA⟩ := hS
  have hnl : (ts.map strV).length = ts.length := List.length_map ..
  rw [hnl] at hcap ⊢
  have hb0 := buf_build w [tag] #[.int .u8 (tag.toNat : Int)] 1 rfl rfl (by omega)
  have hstr := hb0.string Try.underlying36 Try.underlying9
  have e0 : (⟨[tag].toArray⟩ : ByteArray) = ⟨(J.joinB tag (ts.take 0)).toArray⟩ := rfl
  rw [e0] at hstr
  have hB0 := below_alloc1 w (.cells #[.int .u8 (tag.toNat : Int)] 5)
  have hnb := J.joins_ge ts
  have hnb2 : ts.length ≤ 140737488355000 := by
    have e2 : (J.joinB tag ts).length = (J.joins ts).length + 1 := rfl
    omega
  have HX := Lib.hid (show J.joinB tag ts = J.joinB tag (ts.take ts.length) by rw [List.take_length])
  clear hb0 hnl hnb e0
  go_enter Try.func26, Try.ntmps26
  go_wp2
  clear hstr
  obtain ⟨n, hn⟩ : ∃ n, n = ts.length := ⟨_, rfl⟩
  rw [← hn] at hnb2 HX ⊢
  have Hn := Lib.hid hn
  clear hn
  generalize w.alloc (.cells #[.int .u8 (tag.toNat : Int)] 5) = w0 at *
  go_loopw [5, 14] (fun v i wr => ∃ k : Nat, k ≤ n ∧ i = .int .i64 (k : Int) ∧ v = .string ⟨(J.joinB tag (ts.take k)).toArray⟩ ∧ Below w.heap.size w wr) (fun _ i _ => n - (intOf i).toNat)
  case atStart => exact ⟨0, by omega, rfl, rfl, hB0⟩
  case round =>
    clear hB0
    obtain ⟨k, hk, rfl, rfl, hB⟩ := hrel
    by_cases hlt : k < n
    · have d1 : decide ((k : Int) < (n : Int)) = true := by simp; omega
      have d2 : decide (k < n) = true := by simp; omega
      have hkt : k < ts.length := by have := Hn.out; omega
      have hx2 : (J.joinB tag (ts.take (k + 1))).length ≤ 140737488355000 := by
        have := J.joins_take_le ts (k + 1)
        have e1 : (J.joinB tag (ts.take (k + 1))).length = (J.joins (ts.take (k + 1))).length + 1 := rfl
        have e2 : (J.joinB tag ts).length = (J.joins ts).length + 1 := rfl
        omega
      obtain ⟨gt, ot, rfl, hgt, hcell⟩ := hA.resolve_left (by intro e; have := congrArg List.length e; simp at this; rw [this] at hkt; simp at hkt)
      have hsn := J.joinB_snoc tag ts k hkt
      have kc : wr.cell? ⟨gt, ot + k, none⟩ = some (.string ⟨(ts.getD k []).toArray⟩) := by
        rw [hB.cell (p := ⟨gt, ot + k, none⟩) hgt]
        exact hcell k _ (by rw [List.getElem?_map, List.getElem?_eq_getElem hkt, List.getD_eq_getElem?_getD, List.getElem?_eq_getElem hkt]; rfl)
      rw [hsn] at hx2
      generalize ts.getD k [] = t at *
      generalize J.joinB tag (ts.take k) = X at *
      have Hsn := Lib.hid hsn
      have htl : t.length ≤ 140737488355000 := by simp at hx2; omega
      have hxl : X.length ≤ 140737488355000 := by simp at hx2; omega
      have ht0 : (0 : Int) ≤ (t.length : Int) := by omega
      have jk : (0 : Int) ≤ (k : Int) := by omega
      have jk2 : (k : Int) < (n : Int) := by omega
      have hcs := len4_cells t.length
      have hl4 := J.len4_length t.length
      have hb := buf_build wr (J.len4 t.length) _ 4 hcs hl4 (by omega)
      have hstr := hb.string Try.underlying36 Try.underlying9
      have ha1 := str_add (J.len4 t.length) t (by omega)
      have ha2 := str_add X (J.len4 t.length ++ t) (by rw [List.length_append]; omega)
      have hB1 := hB.alloc hB.size (.cells #[.int .u8 ((t.length : Int) / 16777216 % 256), .int .u8 ((t.length : Int) / 65536 % 256), .int .u8 ((t.length : Int) / 256 % 256), .int .u8 ((t.length : Int) % 256)] 5)
      rw [← List.append_assoc] at ha2
      clear hsn hA hcell hgt hkt hb hcs hl4 hB
      go_wp2
      go_roundw
      case rel => exact ⟨k + 1, by omega, by go_num, by rw [Hsn.out, List.append_assoc], hB1⟩
      case measure => simp [intOf]; omega
    · obtain rfl : k = n := by omega
      go_wp2
      go_ret
      exact ⟨by rw [HX.out]; rfl, hB⟩
end Go.Proofs.Ytgjmnhbkdccgpaa
